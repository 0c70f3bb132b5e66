/-
  Layer 21, plain: what a star, a dot and a star, and a quoted text mean. No program in sight.
-/
import Derived.Test.YtfomkkoecelakaaDoorD06
import Derived.Test.YtfomkkoecelakaaDoorB24
import Derived.Test.YtfomkkoecelakaaDoorB25
import Derived.Test.YtfomkkoecelakaaDoorC01
import Derived.Test.YtfomkkoecelakaaDoorC05
import Derived.Test.YtfomkkoecelakaaDoorB23

set_option linter.unusedSimpArgs false
set_option linter.unusedVariables false

set_option maxRecDepth 100000
namespace Go.Proofs.YtfomkkoecelakaaDoor

/-- What Files tells. -/
noncomputable def glFiles (d : Nds) (at' : Int) (fp : List Pc → FP) : List (List Pc) → List ByteArray
  | [] => []
  | f :: l => lkStep d at' (fp f) ⟨(fiL f).toArray⟩ (glR d at' fp l) [] ⟨#[]⟩

section
variable {d : Nds}

theorem emp_cat (x : ByteArray) : (⟨#[]⟩ : ByteArray) ++ x = x := by
  apply ByteArray.ext
  simp

/-- A name of the root is there. -/
theorem thr_name (hI : DInv d) (hin : intoErr d 1 = 0) {e : Ent} (he : e ∈ (nd d 1).ents) : (thrR d 1 e.1 false).2 = 0 := by
  have hok := (hI.node 1).names e he
  obtain ⟨n1, n2, n3, n4, n5⟩ := okName_parts hok
  have hg : entGet (nd d 1).ents e.1 = some e.2 := (entGet_iff (hI.node 1).rising).2 he
  have ht := (hI.tgt 1 e he).1
  have hk : e.2 ≠ 0 := fun h => by rw [h] at ht; have := hI.pos ht; omega
  have hz : hasB e.1 0 = false := by
    unfold okName at hok
    simp only [Bool.and_eq_true, Bool.not_eq_true'] at hok
    exact hok.2
  have hp : pathErr e.1 = 0 := by
    unfold pathErr
    rw [if_neg n1, if_neg (by omega), if_neg]
    have := (bIdx_neg e.1 0).2 hz
    omega
  have hl : prts e.1 = [e.1] := by
    have := slB_prts e.1 ⟨#[]⟩ n1 n5
    rw [show slB (⟨#[]⟩ : ByteArray) = ⟨#[]⟩ by rfl, show e.1 ++ (⟨#[]⟩ : ByteArray) = e.1 by apply ByteArray.ext; simp, show prts (⟨#[]⟩ : ByteArray) = [] by decide] at this
    exact this
  have hno : ∀ i : Nat, e.1.data.toList[i]? ≠ some 47 := fun i hi => by
    have hm := List.mem_of_getElem? hi
    unfold hasB at n5
    rw [List.contains_eq_any_beq, List.any_eq_false] at n5
    exact n5 _ hm (by simp)
  have hs : endS e.1 = false := decide_eq_false (fun h => hno _ h.2)
  have ha : absB e.1 = false := decide_eq_false (hno _)
  unfold thrR fndR
  rw [find_name (follow := false) (fuel := 40) hin hp hl hs ha n2 n3 n4 hg hk, if_neg (fun h => by cases h.1)]
  unfold thereR
  rw [if_neg (by simp), if_neg hk]

theorem foldl_star {p : FP} : ∀ (es : List Ent) (o : List ByteArray), o.length + es.length ≤ 4096 → (∀ e ∈ es, e.1.size ≠ 0 ∧ (thrR d 1 e.1 false).2 = 0) →
    es.foldl (fun o e => if takes p e.1 = true then glR d 1 fpL [] o ((⟨#[]⟩ : ByteArray) ++ e.1) else o) o = o ++ (es.filter fun e => takes p e.1).map (·.1)
  | [], o, _, _ => by simp
  | e :: es, o, hl, h => by
    rw [List.length_cons] at hl
    obtain ⟨h1, h2⟩ := h e List.mem_cons_self
    rw [List.foldl_cons, List.filter_cons]
    cases ht : takes p e.1 with
    | false => 
      simp only [Bool.false_eq_true, if_false]
      exact foldl_star es o (by omega) (fun x hx => h x (List.mem_cons_of_mem _ hx))
    | true =>
      simp only [if_true]
      have hg : glR d 1 fpL [] o ((⟨#[]⟩ : ByteArray) ++ e.1) = o ++ [e.1] := by
        rw [emp_cat]
        show glEnd d 1 o e.1 = _
        unfold glEnd
        rw [if_pos ⟨h1, h2, by omega⟩]
      rw [hg, foldl_star es (o ++ [e.1]) (by simp; omega) (fun x hx => h x (List.mem_cons_of_mem _ hx))]
      simp

/-- The root as these laws leave it. -/
structure RootOk (d : Nds) (k : Nat) : Prop where
  kind : (nd d 1).kind = 2
  mode : (nd d 1).mode = 493
  ents : (nd d 1).ents.length ≤ k

theorem RootOk.into {k : Nat} (h : RootOk d k) : intoErr d 1 = 0 := by
  unfold intoErr folderErr
  rw [h.kind, h.mode]; decide
theorem RootOk.thr {k : Nat} (h : RootOk d k) (hI : DInv d) : thrR d 1 dotB true = (.on 1, 0) := by
  have hq : stepR d (upC d) 1 dotB (false || true) 0 = ⟨.on 1, ⟨#[]⟩, 0, 0⟩ := by
    unfold stepR
    rw [if_neg (by rw [h.into]; simp), if_pos rfl]
  unfold thrR fndR
  rw [findR, if_neg (by decide), show prts dotB = [dotB] by decide, if_neg (by simp), show endS dotB = false by decide, show absB dotB = false by decide]
  simp only [Bool.false_eq_true, if_false]
  rw [scan_one (slash := false) (follow := true) hq, if_neg (by simp), if_neg (by simp)]
  simp [endR, thereR, Plc.on]
theorem RootOk.list {k : Nat} (h : RootOk d k) (hI : DInv d) : lstE d (thrR d 1 dotB true) = 0 := by
  rw [h.thr hI]
  have hh : has d 1 := by unfold has; rw [h.kind]; decide
  have e1 : statE d (Plc.on 1, 0) = 0 := by
    unfold statE
    rw [if_neg (by simp)]
    exact if_pos hh
  unfold lstE
  rw [e1, if_neg (by simp)]
  show (if (nd d 1).kind ≠ 2 then _ else if (bits BinOp.and IntKind.i64 (nd d 1).mode 256 == 0) = true then _ else _) = _
  rw [if_neg (by rw [h.kind]; simp), h.mode]
  decide

/-- One field that is more than a text. -/
theorem files_one (hI : DInv d) {k : Nat} (h : RootOk d k) (hk : k ≤ 4096) (f : List Pc) (hm : (fpL f).means = true) : glFiles d 1 fpL [f] = ((nd d 1).ents.filter fun e => takes (fpL f) e.1).map (·.1) := by
  show lkStep d 1 (fpL f) _ (glR d 1 fpL []) [] ⟨#[]⟩ = _
  unfold lkStep
  rw [if_neg (by simp), if_neg (by rw [hm]; simp), if_pos (show (⟨#[]⟩ : ByteArray).size = 0 from rfl), if_neg (by rw [h.list hI]; simp), h.thr hI]
  show (nd d 1).ents.foldl _ [] = _
  have := h.ents
  rw [foldl_star _ _ (by simp; omega) (fun e he => ⟨fun h0 => by
    have := (okName_parts ((hI.node 1).names e he)).1
    exact this (ByteArray.ext (Array.eq_empty_of_size_eq_zero h0)), thr_name hI h.into he⟩)]
  rfl

theorem star_takes (s : ByteArray) : takes (fpL [(⟨#[42]⟩, false)]) s = !hasDot s := by
  have h1 : (fpL [(⟨#[42]⟩, false)]).dot = false := by decide
  have h2 : (fpL [(⟨#[42]⟩, false)]).mt s = true := by
    refine @decide_eq_true _ (Classical.propDecidable _) ?_
    rw [show ptL (prL (sgL [((⟨#[42]⟩ : ByteArray), false)])) = [⟨42, 0, false, []⟩] by rfl]
    show (if (42 : UInt8) = 42 then _ else _)
    rw [if_pos rfl]
    exact ⟨s.data.toList.length, Nat.le_refl _, by rw [List.drop_length]; rfl⟩
  unfold takes
  rw [h1, h2]; simp
theorem dots_takes (s : ByteArray) : takes (fpL [(⟨#[46, 42]⟩, false)]) s = hasDot s := by
  have h1 : (fpL [(⟨#[46, 42]⟩, false)]).dot = true := by decide
  have h2 : (fpL [(⟨#[46, 42]⟩, false)]).mt s = hasDot s := by
    have hp : ptL (prL (sgL [((⟨#[46, 42]⟩ : ByteArray), false)])) = [⟨98, 46, false, []⟩, ⟨42, 0, false, []⟩] := by rfl
    unfold hasDot
    cases hs : s.data.toList with
    | nil =>
      refine @decide_eq_false _ (Classical.propDecidable _) ?_
      rw [hp, hs]
      show ¬ (if (98 : UInt8) = 42 then _ else _)
      rw [if_neg (by decide)]
      rintro ⟨c, t, h, _⟩
      cases h
    | cons c t =>
      by_cases hc : c = 46
      · subst hc
        refine (@decide_eq_true _ (Classical.propDecidable _) ?_).trans (by simp)
        rw [hp, hs]
        show (if (98 : UInt8) = 42 then _ else _)
        rw [if_neg (by decide)]
        refine ⟨46, t, rfl, by decide, ?_⟩
        show (if (42 : UInt8) = 42 then _ else _)
        rw [if_pos rfl]
        exact ⟨t.length, Nat.le_refl _, by rw [List.drop_length]; rfl⟩
      · refine (@decide_eq_false _ (Classical.propDecidable _) ?_).trans (by simp [hc])
        rw [hp, hs]
        show ¬ (if (98 : UInt8) = 42 then _ else _)
        rw [if_neg (by decide)]
        rintro ⟨c2, t2, h, hf, _⟩
        cases h
        unfold fitsP at hf
        simp at hf
        exact hc hf.symm
  unfold takes
  rw [h1, h2]; simp

/-- A star means the names that begin with no dot, a dot and a star the others. -/
theorem files_star (hI : DInv d) {k : Nat} (h : RootOk d k) (hk : k ≤ 4096) : glFiles d 1 fpL [[(⟨#[42]⟩, false)]] = ((nd d 1).ents.filter fun e => !hasDot e.1).map (·.1) := by
  rw [files_one hI h hk _ (by decide)]
  congr 2
  funext e
  exact star_takes e.1
theorem files_dots (hI : DInv d) {k : Nat} (h : RootOk d k) (hk : k ≤ 4096) : glFiles d 1 fpL [[(⟨#[46, 42]⟩, false)]] = ((nd d 1).ents.filter fun e => hasDot e.1).map (·.1) := by
  rw [files_one hI h hk _ (by decide)]
  congr 2
  funext e
  exact dots_takes e.1
end

end Go.Proofs.YtfomkkoecelakaaDoor

/-
  Layer 21, plain: what a quoted text means; what is found is there; fields out of a piece. No program in sight.
-/
set_option maxRecDepth 100000
namespace Go.Proofs.YtfomkkoecelakaaDoor

section
variable {d : Nds} {up : Int → Int}

theorem lookOf_has (hI : DInv d) (i : Int) (x : ByteArray) : lookOf d i x = 0 ∨ has d (lookOf d i x) := by
  unfold lookOf
  split
  · exact .inl rfl
  · cases hg : entGet (nd d i).ents x with
    | none => exact .inl rfl
    | some k => exact .inr (hI.tgt i _ (entGet_mem hg)).1
theorem into_has {i : Int} (h : intoErr d i = 0) : has d i := by
  unfold intoErr at h
  split at h
  · next h1 => exact absurd h h1
  · next h1 => exact (folderErr_has (Classical.not_not.1 h1)).1
theorem stepR_has (hI : DInv d) (hup : ∀ i, up i = 0 ∨ has d (up i)) {at' : Int} {x : ByteArray} {fl : Bool} {n : Nat} (h : (stepR d up at' x fl n).e = 0) :
    (stepR d up at' x fl n).p.node = 0 ∨ has d (stepR d up at' x fl n).p.node := by
  unfold stepR at h ⊢
  by_cases h1 : intoErr d at' ≠ 0
  · rw [if_pos h1] at h; exact absurd h h1
  rw [if_neg h1] at h ⊢
  have h1' := into_has (Classical.not_not.1 h1)
  split
  · exact .inr h1'
  · split
    · exact hup at'
    · split
      · exact .inl rfl
      · split
        · exact lookOf_has hI _ _
        · split
          · exact lookOf_has hI _ _
          · split
            · exact .inl rfl
            · exact lookOf_has hI _ _
theorem scan_has (hI : DInv d) (hup : ∀ i, up i = 0 ∨ has d (up i)) {slash follow : Bool} {q : Plc} : ∀ (l : List ByteArray) (at' : Int) (n : Nat) (p : Plc), (p.node = 0 ∨ has d p.node) → scan d up slash follow l at' n p = .fin q → q.node = 0 ∨ has d q.node
  | [], _, _, p, hp, h => by
    rw [scan] at h
    cases h; exact hp
  | x :: r, at', n, p, _, h => by
    rw [scan] at h
    by_cases h1 : (stepR d up at' x (!r.isEmpty || slash || follow) n).e ≠ 0
    · rw [if_pos h1] at h; cases h
    rw [if_neg h1] at h
    split at h
    · cases h
    · split at h
      · cases h
      · exact scan_has hI hup r _ _ _ (stepR_has hI hup (Classical.not_not.1 h1)) h
theorem find_has (hI : DInv d) (hup : ∀ i, up i = 0 ∨ has d (up i)) {follow : Bool} : ∀ (fuel : Nat) (i : Int) (s : ByteArray) (n : Nat), (findR d up follow fuel i s n).2 = 0 → (findR d up follow fuel i s n).1.node = 0 ∨ has d (findR d up follow fuel i s n).1.node
  | 0, _, _, _, h => by rw [findR] at h; cases h
  | fuel + 1, i, s, n, h => by
    rw [findR] at h ⊢
    by_cases h1 : pathErr s ≠ 0
    · rw [if_pos h1] at h; exact absurd h h1
    rw [if_neg h1] at h ⊢
    by_cases h2 : prts s = []
    · rw [if_pos h2] at h ⊢
      exact .inr (into_has h)
    rw [if_neg h2] at h ⊢
    rw [scan_p h2 _ (.no)] at h ⊢
    cases hs : scan d up (endS s) follow (prts s) (if absB s then 1 else i) n .no with
    | fin p =>
      rw [hs] at h
      have hp := scan_has hI hup _ _ _ _ (.inl rfl) hs
      show (endR d p (endS s)).1.node = 0 ∨ has d (endR d p (endS s)).1.node
      unfold endR
      split
      · exact hp
      · split
        · exact .inl rfl
        · exact hp
    | err e => exact .inl rfl
    | again at' s' n' =>
      rw [hs] at h
      exact find_has hI hup fuel _ _ _ h
theorem upC_has (hI : DInv d) (i : Int) : upC d i = 0 ∨ has d (upC d i) := by
  by_cases h1 : i = 1
  · subst h1
    right
    rw [show upC d 1 = 1 by unfold upC; rw [if_pos rfl]]
    unfold has
    rw [hI.root]; decide
  unfold upC
  rw [if_neg h1]
  split
  · next h =>
    right
    obtain ⟨_, e, he, _⟩ := Classical.choose_spec h
    intro h0
    have := (hI.node (Classical.choose h)).gone h0
    rw [this] at he
    cases he
  · exact .inl rfl
/-- What a path leads to is there. -/
theorem thr_has (hI : DInv d) {at' : Int} {s : ByteArray} {follow : Bool} (h : (thrR d at' s follow).2 = 0) : has d (thrR d at' s follow).1.node := by
  unfold thrR thereR at h ⊢
  by_cases h1 : (fndR d at' s follow).2 ≠ 0
  · rw [if_pos h1] at h; exact absurd h h1
  rw [if_neg h1] at h ⊢
  by_cases h2 : (fndR d at' s follow).1.node = 0
  · rw [if_pos h2] at h; cases h
  rw [if_neg h2]
  exact (find_has hI (upC_has hI) 41 at' s 0 (Classical.not_not.1 h1)).resolve_left h2
theorem stat_err (hI : DInv d) (at' : Int) (s : ByteArray) (follow : Bool) : statE d (thrR d at' s follow) = (thrR d at' s follow).2 := by
  unfold statE
  by_cases h1 : (thrR d at' s follow).2 ≠ 0
  · rw [if_pos h1]
  · rw [if_neg h1, if_pos (thr_has hI (Classical.not_not.1 h1)), Classical.not_not.1 h1]

/-- A field of one piece, or of none. -/
def oneF (q : Bool) (x : ByteArray) : List Pc := if x.size = 0 then [] else [(x, q)]
theorem oneF_text (q : Bool) (x : ByteArray) : (⟨(fiL (oneF q x)).toArray⟩ : ByteArray) = x := by
  unfold oneF fiL
  split
  · next h =>
    apply ByteArray.ext
    exact (Array.eq_empty_of_size_eq_zero h).symm
  · apply ByteArray.ext
    simp
theorem oneF_means (x : ByteArray) : (fpL (oneF true x)).means = false := by
  unfold fpL meansL oneF
  rw [List.any_eq_false]
  intro y hy
  unfold prL at hy
  obtain ⟨g, hg, rfl⟩ := List.mem_map.1 hy
  have : g.2 = true := by
    split at hg
    · simp [sgL] at hg
    · simp [sgL, sgP] at hg
      obtain ⟨_, _, rfl⟩ := hg
      rfl
  unfold partOf
  rw [this]
  simp

theorem glR_quoted (at' : Int) : ∀ (l : List ByteArray) (out : List ByteArray) (s : ByteArray), out.length < 4096 →
    glR d at' fpL (l.map (oneF true)) out s = glEnd d at' out (ofL (s.data.toList ++ l.flatMap fun x => 47 :: x.data.toList))
  | [], out, s, _ => by
    show glEnd d at' out s = _
    rw [List.flatMap_nil, List.append_nil, ofL_data]
  | x :: l, out, s, h => by
    rw [List.map_cons]
    show lkStep d at' (fpL (oneF true x)) _ (glR d at' fpL (l.map (oneF true))) out (s ++ ⟨#[47]⟩) = _
    unfold lkStep
    rw [if_neg (by omega), if_pos (oneF_means x), oneF_text, glR_quoted at' l out _ h]
    congr 2
    simp
theorem pcsL_join : ∀ (s x : List UInt8) (r : List (List UInt8)), pcsL s = x :: r → x ++ (r.flatMap fun y => 47 :: y) = s
  | [], x, r, h => by
    simp [pcsL] at h
    obtain ⟨rfl, rfl⟩ := h
    rfl
  | c :: s, x, r, h => by
    rw [pcsL] at h
    split at h
    · next hc =>
      injection h with h1 h2
      subst h1; subst h2
      cases hp : pcsL s with
      | nil => exact absurd hp (pcsL_ne s)
      | cons y t =>
        rw [List.flatMap_cons, List.nil_append, List.cons_append, pcsL_join s y t hp, hc]
    · cases hp : pcsL s with
      | nil => exact absurd hp (pcsL_ne s)
      | cons y t =>
        rw [hp] at h
        injection h with h1 h2
        subst h1; subst h2
        rw [List.cons_append, pcsL_join s y t hp]

/-- A quoted text means itself alone. -/
theorem files_quoted (s : ByteArray) (hs : s.size ≠ 0) : glFiles d 1 fpL ((pcs s).map (oneF true)) = if (thrR d 1 s false).2 = 0 then [s] else [] := by
  unfold pcs
  cases hp : pcsL s.data.toList with
  | nil => exact absurd hp (pcsL_ne _)
  | cons x r =>
    have hj := pcsL_join _ _ _ hp
    rw [List.map_cons, List.map_cons]
    show lkStep d 1 (fpL (oneF true (ofL x))) _ (glR d 1 fpL ((r.map ofL).map (oneF true))) [] ⟨#[]⟩ = _
    unfold lkStep
    rw [if_neg (by simp), if_pos (oneF_means _), oneF_text, emp_cat, glR_quoted 1 _ _ _ (by simp)]
    have e : (ofL x).data.toList ++ ((r.map ofL).flatMap fun x => 47 :: x.data.toList) = s.data.toList := by
      rw [← hj, ofL_toList, List.flatMap_map]
      simp only [ofL_toList]
    rw [e, ofL_data]
    unfold glEnd
    by_cases h : (thrR d 1 s false).2 = 0
    · rw [if_pos ⟨hs, h, by simp⟩, if_pos h]; rfl
    · rw [if_neg (fun h2 => h h2.2.1), if_neg h]

/-- The fields of one piece. -/
theorem stGo_rest (q : Bool) : ∀ (l : List ByteArray) (k : Nat) (st : List (List Pc) × List Pc),
    ((l.zipIdx (k + 1)).foldl (fun st x => stOne st x.2 x.1 q) st).1 ++ [((l.zipIdx (k + 1)).foldl (fun st x => stOne st x.2 x.1 q) st).2] = (st.1 ++ [st.2]) ++ l.map (oneF q)
  | [], k, st => by simp
  | x :: l, k, st => by
    rw [List.zipIdx_cons, List.foldl_cons, stGo_rest q l (k + 1)]
    have : (stOne st (k + 1) x q).1 ++ [(stOne st (k + 1) x q).2] = (st.1 ++ [st.2]) ++ [oneF q x] := by
      unfold stOne oneF
      rw [if_pos (Nat.succ_pos k)]
      simp only
      split
      · rfl
      · rfl
    simp only [this, List.map_cons]
    simp
theorem stField_one (s : ByteArray) (q : Bool) : (stField [(s, q)]).1 ++ [(stField [(s, q)]).2] = (pcs s).map (oneF q) := by
  show (stGo ([], []) (pcs s) q).1 ++ [(stGo ([], []) (pcs s) q).2] = _
  unfold stGo pcs
  cases hp : pcsL s.data.toList with
  | nil => exact absurd hp (pcsL_ne _)
  | cons x r =>
    rw [List.map_cons, List.zipIdx_cons, List.foldl_cons, stGo_rest q]
    have : (stOne ([], []) 0 (ofL x) q).1 ++ [(stOne ([], []) 0 (ofL x) q).2] = [oneF q (ofL x)] := by
      unfold stOne oneF
      rw [if_neg (Nat.lt_irrefl 0)]
      split
      · rfl
      · rfl
    simp only [this, List.map_cons]
    simp
end

end Go.Proofs.YtfomkkoecelakaaDoor

/-
  Layer 21, plain: the root behind Mkdir; the document's example. No program in sight.
-/
set_option maxRecDepth 100000
namespace Go.Proofs.YtfomkkoecelakaaDoor

section
variable {d d' : Nds} {room : Int}

theorem Kills.root (k : Kills d d') (h : has d 1) : nd d' 1 = nd d 1 := by
  induction k with
  | refl => rfl
  | @step d1 d2 i hi _ ih =>
    have hne : (1 : Int) ≠ i := fun e => by subst e; exact DInv.not_garb_root hi
    have hq : nd (kill d1 i) 1 = nd d1 1 := by rw [nd_kill hi.1, if_neg hne]
    rw [ih (by unfold has; rw [hq]; exact h), hq]
theorem gc_at1 (h : has d 1) : nd (gc d) 1 = nd d 1 := (gc_kills d).root h

theorem RootOk.mono {k k' : Nat} (h : RootOk d k) (hk : k ≤ k') : RootOk d k' := ⟨h.kind, h.mode, Nat.le_trans h.ents hk⟩
theorem RootOk.has {k : Nat} (h : RootOk d k) : has d 1 := by unfold Go.Proofs.YtfomkkoecelakaaDoor.has; rw [h.kind]; decide
theorem RootOk.same {k : Nat} (h : RootOk d k) (e : nd d' 1 = nd d 1) : RootOk d' k := ⟨by rw [e]; exact h.kind, by rw [e]; exact h.mode, by rw [e]; exact h.ents⟩
theorem RootOk.new : RootOk newD 0 := by
  have e : nd newD 1 = rootNd := by rw [nd_new, if_pos rfl]
  exact ⟨by rw [e]; rfl, by rw [e]; rfl, by rw [e]; exact Nat.le_refl 0⟩

theorem put_len (name : ByteArray) (n : Int) (l : List Ent) : (entPut l name n).length ≤ l.length + 1 := by
  unfold entPut
  have : ∀ l : List Ent, (l.filter fun e => bLt e.1 name).length + (l.filter fun e => bLt name e.1).length ≤ l.length := by
    intro l
    induction l with
    | nil => simp
    | cons x l ih =>
      rw [List.filter_cons, List.filter_cons]
      cases h1 : bLt x.1 name with
      | true => 
        rw [bLt_asymm h1]
        simp; omega
      | false =>
        cases bLt name x.1
        · simp; omega
        · simp; omega
  have := this l
  simp only [List.length_append, List.length_singleton]
  omega

theorem RootOk.rel {k : Nat} (h : RootOk d k) {i : Int} (hi : i ≠ 1) : RootOk (relD d i) k := by
  unfold relD
  split
  · next hr =>
    have hh : Go.Proofs.YtfomkkoecelakaaDoor.has d i := fun e => by unfold relErr at hr; rw [if_pos e] at hr; cases hr
    have hq : nd (relTo d i) 1 = nd d 1 := by rw [nd_relTo hh, if_neg (fun e => hi e.symm)]
    exact (h.same hq).same (gc_at1 (h.same hq).has)
  · exact h

/-- Behind Mkdir. -/
theorem RootOk.mkdir {k : Nat} (h : RootOk d k) (at' mask : Int) (s : ByteArray) (m : Int) : RootOk (mkdirR d room at' mask s m).1 (k + 1) := by
  have ht : d.length ≠ 1 := fun e => by
    have := (has_range h.has).2
    simp [e] at this
  have hL : ((d.length : Nat) : Int) ≠ 1 := by omega
  unfold mkdirR
  split
  · exact h.mono (Nat.le_succ _)
  unfold madeR
  split
  · exact h.mono (Nat.le_succ _)
  have ha : RootOk (d ++ [newNd 2 (freshM m mask) ⟨#[]⟩]) k := h.same (by rw [nd_append, if_neg (fun e => hL e.symm)])
  unfold entrR
  refine RootOk.rel ?_ hL
  unfold enterD
  split
  · next he =>
    obtain ⟨hf, hp⟩ := enterErr_folder he
    have hh := (folderErr_has hf).1
    unfold enterTo
    by_cases h1 : (freeR d at' s true).1.dir = 1
    · rw [h1] at hh ⊢
      have e : nd (setE (d ++ [newNd 2 (freshM m mask) ⟨#[]⟩]) 1 (entPut (nd (d ++ [newNd 2 (freshM m mask) ⟨#[]⟩]) 1).ents (freeR d at' s true).1.name ((d.length : Nat) : Int))) 1 = (nd (d ++ [newNd 2 (freshM m mask) ⟨#[]⟩]) 1).setEnts (entPut (nd (d ++ [newNd 2 (freshM m mask) ⟨#[]⟩]) 1).ents (freeR d at' s true).1.name ((d.length : Nat) : Int)) := by
        rw [nd_setE hh, if_pos rfl]
      refine ⟨by rw [e]; exact ha.kind, by rw [e]; exact ha.mode, ?_⟩
      rw [e]
      have := ha.ents
      exact Nat.le_trans (put_len _ _ _) (by omega)
    · exact (ha.same (by rw [nd_setE hh, if_neg (fun e => h1 e.symm)])).mono (Nat.le_succ _)
  · exact ha.mono (Nat.le_succ _)

theorem nds_ext {e : Nds} (hl : d.length = e.length) (h : ∀ j, nd d j = nd e j) : d = e := by
  apply List.ext_getElem hl
  intro i h1 h2
  have := h i
  unfold nd at this
  rw [if_pos (by omega), if_pos (by omega), Int.toNat_natCast] at this
  simpa [List.getD, List.getElem?_eq_getElem h1, List.getElem?_eq_getElem h2] using this

/-- A name of the root is made. -/
theorem mk_root (hI : DInv d) (hcl : NoGarb d) {k : Nat} (h : RootOk d k) {x : ByteArray} (hp : pathErr x = 0) (hl : prts x = [x]) (hs : endS x = false) (ha : absB x = false) (hn : okName x = true) (hno : entHas (nd d 1).ents x = false) (hc : count d < 65536) (hu : (used d : Int) + x.size ≤ 100) :
    (mkdirR d 100 1 0 x 511).2 = 0 ∧ (mkdirR d 100 1 0 x 511).1.length = d.length + 1 ∧
      ∀ j, nd (mkdirR d 100 1 0 x 511).1 j = if j = d.length then ⟨2, 511, 0, ⟨#[]⟩, []⟩ else if j = 1 then (nd d 1).setEnts (entPut (nd d 1).ents x d.length) else nd d j := by
  obtain ⟨n1, n2, n3, n4, n5⟩ := okName_parts hn
  have hg := entGet_none hno
  have hf : fndR d 1 x false = (⟨0, 1, x⟩, 0) := by
    have := find_1 (d := d) (up := upC d) (s := x) (a := x) (follow := false) h.into hp hl hs ha n2 n3 n4 (fun k hk => by rw [hg] at hk; cases hk) 40 0
    rw [hg] at this
    exact this
  have hmy : mayE d 1 128 = 0 := by unfold mayE; rw [if_neg (fun hh => hh h.has), h.mode]; decide
  have hfr : freeR d 1 x true = (⟨0, 1, x⟩, 0) := by
    unfold freeR
    rw [hf, if_neg (by simp), if_neg (by simp), if_neg (by simp), hmy]
  obtain ⟨g1, g2, g3⟩ := made_go (d := d) (room := 100) (kind := 2) (m := freshM 511 0) (s := ⟨#[]⟩) (at' := 1) (nm := x) hI (by decide) (by decide) (by decide) (by decide) (by decide) hn
    (by unfold folderErr; rw [h.kind]; decide) hno hc (by rw [show (⟨#[]⟩ : ByteArray).size = 0 from rfl]; omega)
  obtain ⟨h1, h2, h3⟩ := made_ok (p := ⟨0, 1, x⟩) hI hcl g1 g2 g3
  unfold mkdirR
  rw [hfr, if_neg (by simp)]
  refine ⟨h1, h2, fun j => ?_⟩
  rw [h3]
  rw [show freshM 511 0 = 511 by decide]
end

/-- The document's example, step by step. -/
def ancD (es : List Ent) (n : Nat) : Nds := [Nd.gone, ⟨2, 493, 0, ⟨#[]⟩, es⟩] ++ List.replicate n ⟨2, 511, 0, ⟨#[]⟩, []⟩
theorem anc_step {es : List Ent} {n : Nat} (hI : DInv (ancD es n)) (hcl : NoGarb (ancD es n)) {x : ByteArray} (hp : pathErr x = 0) (hl : prts x = [x]) (hs : endS x = false) (ha : absB x = false) (hn : okName x = true) (hno : entHas es x = false)
    (hc : count (ancD es n) < 65536) (hu : (used (ancD es n) : Int) + x.size ≤ 100) : (mkdirR (ancD es n) 100 1 0 x 511).1 = ancD (entPut es x ((n + 2 : Nat) : Int)) (n + 1) := by
  have e1 : nd (ancD es n) 1 = ⟨2, 493, 0, ⟨#[]⟩, es⟩ := rfl
  have h : RootOk (ancD es n) es.length := ⟨by rw [e1], by rw [e1], by rw [e1]; exact Nat.le_refl _⟩
  have hlen : (ancD es n).length = n + 2 := by unfold ancD; simp <;> omega
  obtain ⟨_, h2, h3⟩ := mk_root hI hcl h hp hl hs ha hn (by rw [e1]; exact hno) hc hu
  have happ : ancD (entPut es x ((n + 2 : Nat) : Int)) (n + 1) = ancD (entPut es x ((n + 2 : Nat) : Int)) n ++ [⟨2, 511, 0, ⟨#[]⟩, []⟩] := by
    unfold ancD
    rw [List.replicate_succ', List.append_assoc]
  have hlen2 : (ancD (entPut es x ((n + 2 : Nat) : Int)) n).length = n + 2 := by unfold ancD; simp <;> omega
  refine nds_ext (by rw [h2, hlen]; unfold ancD; simp <;> omega) fun j => ?_
  rw [h3, hlen, happ, nd_append, hlen2]
  by_cases j1 : j = ((n + 2 : Nat) : Int)
  · rw [if_pos j1, if_pos j1]
  rw [if_neg j1, if_neg j1]
  by_cases j2 : j = 1
  · subst j2
    rw [if_pos rfl]
    rfl
  rw [if_neg j2]
  by_cases j3 : 0 ≤ j
  · obtain ⟨i, rfl⟩ : ∃ i : Nat, j = i := ⟨j.toNat, by omega⟩
    match i, j2 with
    | 0, _ => rfl
    | 1, h => exact absurd rfl h
    | i + 2, _ => rfl
  · unfold nd
    rw [if_neg j3, if_neg j3]

end Go.Proofs.YtfomkkoecelakaaDoor

/-
  Layer 21: contracts of package glob: Files.
-/
set_option maxRecDepth 100000
set_option maxHeartbeats 8000000
namespace Go.Proofs.YtfomkkoecelakaaDoor
open Go Go.RowKit

section
variable {N : Nat → Prop} {w w' w2 : World} {F a : Nat} {d d' : Nds} {room calls fail : Int} {G : Nat} {at' mask : Int} {v v' v2 : Value} {out out' out2 : List ByteArray}

theorem found_any {fp : List Pc → FP} : ∀ fl : List (List Pc), (∀ f ∈ fl, PatOk fp f ∧ f.length ≤ 1000 ∧ ∀ p ∈ f, p.1.size ≤ 1000) → FoundC F a d room calls fail G at' mask fl (glR d at' fp fl)
  | [], _ => fun _ _ _ _ _ _ h _ hs => found_nil h _ (by omega) _ _
  | f :: fl, hfl => fun w v out s p c h hf hs => by
    obtain ⟨h1, h2, h3⟩ := hfl f List.mem_cons_self
    have hcp := hf.cap
    rw [List.length_cons] at hs
    have hsz : (s ++ ⟨#[47]⟩ : ByteArray).size = s.size + 1 := by rw [ByteArray.size_append]; rfl
    refine found_cons (by simp) hcp.1 hcp.2 s (by omega) ?_
    exact glLook_any h hf h1 h2 h3 _ (by rw [hsz]; omega) (found_any fl (fun x hx => hfl x (List.mem_cons_of_mem _ hx)))

theorem StH.fld {S : Nat → Prop} {hs : List SvH} {h : SvH} {init : List (List Pc)} {last : List Pc} (H : StH S w v hs h init last) : ∃ p c, v = .slice p (init.length + 1) c ∧ FldS S w p c (init ++ [last]) := by
  obtain ⟨p, c, hv, hsl⟩ := H.own.sl
  refine ⟨p, c, by rw [hv, List.length_append, List.length_singleton, H.len], ⟨hs ++ [h], by simp [H.len], hsl, fun i x l hx hl => ?_⟩⟩
  by_cases hi : i < hs.length
  · rw [List.getElem?_append_left hi] at hx
    rw [List.getElem?_append_left (by rw [← H.len]; exact hi)] at hl
    obtain ⟨h1, h2⟩ := H.old i x l hx hl
    exact ⟨h1, h2.keepS (Keeps.refl NoB w) (fun _ _ _ h => h) (fun g hg _ => hg.1)⟩
  · have hil : i = hs.length := by
      have := (List.getElem?_eq_some_iff.1 hx).1
      simp at this; omega
    subst hil
    rw [List.getElem?_append_right (Nat.le_refl _), Nat.sub_self] at hx
    rw [H.len, List.getElem?_append_right (Nat.le_refl _), Nat.sub_self] at hl
    cases hx; cases hl
    have hln := own_len H.lst
    have hm := H.lst
    unfold svV at hm
    rw [hln] at hm
    exact ⟨hln, hm.at⟩

theorem globFiles_any {fp : List Pc → FP} (h : FSt N w F a d room calls fail) (at' mask : Int) {S1 : Nat → Prop} {pa : Option Addr} {ca : Nat} {f : List Pc} (hf : SlAt encPc S1 w pa ca f) (hn : f.length ≤ 1000) (hz : ∀ p ∈ f, p.1.size ≤ 1000)
    (hfl : ∀ g ∈ (stField f).1 ++ [(stField f).2], PatOk fp g ∧ g.length ≤ 1000 ∧ ∀ p ∈ g, p.1.size ≤ 1000) (hfn : ((stField f).1 ++ [(stField f).2]).length ≤ 3000) :
    Calls Tryd.prog 10 #[.pointer (some ⟨F, 0, none⟩), .agg #[.int .i64 at', .int .i64 mask], .slice pa f.length ca] w fun e w' =>
      ∃ v, e = .returned v ∧ Own encStr 9 (fun g => w.heap.size ≤ g) w' v (glFiles d at' fp ((stField f).1 ++ [(stField f).2])) ∧ Keeps NoB w w' := by
  have HF := Lib.hid h
  have HSt := Lib.hid (fun wx (k : Keeps NoB w wx) => steps_any (hf.keepN k) hn hz)
  have hcap := hf.cap
  have hmax := hf.max
  unfold maxLen at hmax
  obtain ⟨st, hst⟩ : ∃ st, stField f = st := ⟨_, rfl⟩
  rw [hst] at HSt hfl hfn ⊢
  have HFl := Lib.hid hfl
  have HFn := Lib.hid hfn
  clear h hf hz hfl hfn hst
  go_enter Tryd.func10, Tryd.ntmps10
  go_upto_region 2 with fail
  have ka : Keeps NoB w (w.alloc (.cells #[.int .i64 at', .int .i64 mask] 30)) := (Keeps.refl NoB w).alloc _
  have kb : Keeps NoB (w.alloc (.cells #[.int .i64 at', .int .i64 mask] 30)) ((w.alloc (.cells #[.int .i64 at', .int .i64 mask] 30)).alloc (.cells #[.pointer (some ⟨F, 0, none⟩), .int .i64 at', .int .i64 mask, .slice none 0 0] 65)) := (Keeps.refl NoB _).alloc _
  have hs1 : (w.alloc (.cells #[.int .i64 at', .int .i64 mask] 30)).heap.size = w.heap.size + 1 := by simp
  have hbx := Bk.new (Keeps.refl NoB ((w.alloc (.cells #[.int .i64 at', .int .i64 mask] 30)).alloc (.cells #[.pointer (some ⟨F, 0, none⟩), .int .i64 at', .int .i64 mask, .slice none 0 0] 65)))
  rw [hs1] at hbx
  have hfx := (HF.out.on ka).more kb (w.heap.size + 1) (by rw [hs1]; exact Nat.le_refl _) (by simp)
  have HA0 : Hid (GlAt ((w.alloc (.cells #[.int .i64 at', .int .i64 mask] 30)).alloc (.cells #[.pointer (some ⟨F, 0, none⟩), .int .i64 at', .int .i64 mask, .slice none 0 0] 65)) F a d room calls fail (w.heap.size + 1) at' mask (.slice none 0 0) []) :=
    ⟨⟨_, hfx, .inr rfl, fun g hg => by cases hg⟩, hbx, Own.nil _ _ _ _⟩
  have HK2 := Lib.hid (ka.trans kb)
  have hGl : w.heap.size + 1 < ((w.alloc (.cells #[.int .i64 at', .int .i64 mask] 30)).alloc (.cells #[.pointer (some ⟨F, 0, none⟩), .int .i64 at', .int .i64 mask, .slice none 0 0] 65)).heap.size := hbx.lt
  clear hs1 hbx hfx ka kb
  generalize ((w.alloc (.cells #[.int .i64 at', .int .i64 mask] 30)).alloc (.cells #[.pointer (some ⟨F, 0, none⟩), .int .i64 at', .int .i64 mask, .slice none 0 0] 65)) = w2 at *
  have hGw : w.heap.size ≤ w.heap.size + 1 := Nat.le_succ _
  generalize hG : w.heap.size + 1 = G at *
  have HL : Hid (∀ w4 v, Keeps NoB w2 w4 → StX (fun g => w2.heap.size ≤ g) w4 v st → ∃ p n c, v = .slice p n c ∧ Calls Tryd.prog 19 #[.pointer (some ⟨G, 0, none⟩), .string ⟨#[]⟩, .slice p n c] w4 (GlTo w4 (.slice none 0 0) F a d room calls fail G at' mask (glFiles d at' fp (st.1 ++ [st.2])))) := by
    refine Lib.hid fun w4 v k hx => ?_
    obtain ⟨hs, h0, hst⟩ := hx
    obtain ⟨p, c, rfl, hfl⟩ := hst.fld
    have hfl2 := hfl.keepS (Keeps.refl NoB w4) (S' := fun g => g ≠ G ∧ (Value.slice none 0 0).ownBlock ≠ some g) (fun _ _ _ h => h) (fun g hg _ => ⟨by omega, fun e => by cases e⟩)
    have hl := HFn.out
    have ho := HFl.out
    have hne : st.1 ++ [st.2] ≠ [] := by simp
    refine ⟨p, _, c, rfl, ?_⟩
    rw [show st.1.length + 1 = (st.1 ++ [st.2]).length by simp]
    generalize st.1 ++ [st.2] = fields at *
    cases fields with
    | nil => exact absurd rfl hne
    | cons f0 fl0 =>
      obtain ⟨o1, o2, o3⟩ := ho f0 List.mem_cons_self
      rw [List.length_cons] at hl
      exact glLook_any (HA0.out.on k) hfl2 o1 o2 o3 ⟨#[]⟩ (by show 0 + _ + _ ≤ _; omega) (found_any fl0 (fun x hx => ho x (List.mem_cons_of_mem _ hx)))
  have HSt2 := Lib.hid (HSt.out _ HK2.out)
  clear HSt HA0 hcap hmax
  go_upto_region 3 with (first
    | (go_at_call 20; go_loud (refine HSt2.out.mono ?_); rintro e w4 ⟨v4, rfl, hx4, hk4⟩; obtain ⟨p4, n4, c4, rfl, HC4⟩ := HL.out w4 v4 hk4 hx4)
    | (go_at_call 19; go_loud (refine HC4.mono ?_); rintro e w5 ⟨rfl, v5, hR5⟩))
  have HR := Lib.hid hR5
  obtain ⟨vp, vc, rfl, _⟩ := hR5.st.own.sl
  have b3 := hR5.st.box.cell 3 _ rfl
  have b3l := hR5.st.box.lt
  have HKe := Lib.hid ((HK2.out.trans hk4).step hR5.keeps (fun g hg => .inr (by
    rcases hg with e | e
    · omega
    · cases e)))
  have HOw := Lib.hid (HR.out.st.own.mono (S' := fun g => w.heap.size ≤ g) (fun g hg _ => by
    rcases HR.out.own g hg with e | e
    · cases e
    · exact Nat.le_trans (HK2.out.trans hk4).size e))
  clear hR5 HR hk4 hx4 HC4
  go_wp2_with fail
  go_ret
  exact ⟨_, rfl, HOw.out, HKe.out⟩
end

end Go.Proofs.YtfomkkoecelakaaDoor

/-
  Layer 21's statements: the document's example.
-/
set_option maxRecDepth 100000
set_option maxHeartbeats 8000000
namespace Go.Proofs.YtfomkkoecelakaaDoor
open Go Go.RowKit

def aNm : List ByteArray := [⟨#[97]⟩, ⟨#[46, 98]⟩, ⟨#[99]⟩]
def aEs : Nat → List Ent
  | 0 => []
  | 1 => [(⟨#[97]⟩, 2)]
  | 2 => [(⟨#[46, 98]⟩, 3), (⟨#[97]⟩, 2)]
  | _ => [(⟨#[46, 98]⟩, 3), (⟨#[97]⟩, 2), (⟨#[99]⟩, 4)]
def ancK (k : Nat) : Nds := ancD (aEs k) k

theorem ancK_new : newD = ancK 0 := rfl
theorem ancK_step {k : Nat} (hk : k < 3) (hI : DInv (ancK k)) (hcl : NoGarb (ancK k)) {x : ByteArray} (hx : aNm[k]? = some x) : (mkdirR (ancK k) 100 1 0 x 511).1 = ancK (k + 1) := by
  match k, hk with
  | 0, _ =>
    cases hx
    exact anc_step hI hcl (by decide) (by decide) (by decide) (by decide) (by decide) (by decide) (by decide) (by decide)
  | 1, _ =>
    cases hx
    exact anc_step hI hcl (by decide) (by decide) (by decide) (by decide) (by decide) (by decide) (by decide) (by decide)
  | 2, _ =>
    cases hx
    exact anc_step hI hcl (by decide) (by decide) (by decide) (by decide) (by decide) (by decide) (by decide) (by decide)
theorem ancK_mass {k : Nat} (hk : k ≤ 3) : mass (ancK k) ≤ 100 := by
  match k, hk with
  | 0, _ => decide
  | 1, _ => decide
  | 2, _ => decide
  | 3, _ => decide
theorem ancK_root : RootOk (ancK 3) 3 := ⟨rfl, rfl, by decide⟩

theorem fields_quoted (s : ByteArray) (h : s.size ≤ 1000) : ∀ g ∈ (stField [(s, true)]).1 ++ [(stField [(s, true)]).2], PatOk fpL g ∧ g.length ≤ 1000 ∧ ∀ p ∈ g, p.1.size ≤ 1000 := by
  rw [stField_one]
  intro g hg
  obtain ⟨x, hx, rfl⟩ := List.mem_map.1 hg
  have hz := pcs_size s x hx
  have h1 : (oneF true x).length ≤ 1000 := by unfold oneF; split <;> simp
  have h2 : ∀ p ∈ oneF true x, p.1.size ≤ 1000 := fun p hp => by
    unfold oneF at hp
    split at hp
    · cases hp
    · rw [List.mem_singleton.1 hp]; exact Nat.le_trans hz h
  refine ⟨patOk_any _ h1 h2 (fun g hg hq => ?_), h1, h2⟩
  exfalso
  unfold oneF at hg
  split at hg
  · simp [sgL] at hg
  · simp [sgL, sgP] at hg
    obtain ⟨_, _, rfl⟩ := hg
    cases hq
theorem fields_star : (stField [(⟨#[42]⟩, false)]).1 ++ [(stField [(⟨#[42]⟩, false)]).2] = [[(⟨#[42]⟩, false)]] := by
  rw [stField_one]; decide
theorem fields_dots : (stField [(⟨#[46, 42]⟩, false)]).1 ++ [(stField [(⟨#[46, 42]⟩, false)]).2] = [[(⟨#[46, 42]⟩, false)]] := by
  rw [stField_one]; decide
theorem ok_star : ∀ g ∈ [[((⟨#[42]⟩ : ByteArray), false)]], PatOk fpL g ∧ g.length ≤ 1000 ∧ ∀ p ∈ g, p.1.size ≤ 1000 := fun g hg => by
  rw [List.mem_singleton.1 hg]
  exact ⟨patOk_any _ (by decide) (by decide) (by decide), by decide, by decide⟩
theorem ok_dots : ∀ g ∈ [[((⟨#[46, 42]⟩ : ByteArray), false)]], PatOk fpL g ∧ g.length ≤ 1000 ∧ ∀ p ∈ g, p.1.size ≤ 1000 := fun g hg => by
  rw [List.mem_singleton.1 hg]
  exact ⟨patOk_any _ (by decide) (by decide) (by decide), by decide, by decide⟩

/-- Files of one piece that is more than a text: all of a literal. -/
theorem one_any {W wu : World} {P : Nat → Prop} {F a : Nat} {d : Nds} {room calls fail : Int} (h : FSx W P wu F a d room calls fail) (s : ByteArray) (q : Bool) (hs : s.size ≤ 1000) (hok : ∀ g ∈ (stField [(s, q)]).1 ++ [(stField [(s, q)]).2], PatOk fpL g ∧ g.length ≤ 1000 ∧ ∀ p ∈ g, p.1.size ≤ 1000) :
    Calls Tryd.prog 10 #[.pointer (some ⟨F, 0, none⟩), .agg #[.int .i64 1, .int .i64 0], .slice (some ⟨wu.heap.size, 0, none⟩) 1 1] (wu.alloc (.cells #[.string s, .bool q] 37)) fun e w' =>
      ∃ v, e = .returned v ∧ Own encStr 9 (fun g => wu.heap.size ≤ g) w' v (glFiles d 1 fpL ((stField [(s, q)]).1 ++ [(stField [(s, q)]).2])) ∧ Keeps NoB wu w' := by
  have ka : Keeps NoB wu (wu.alloc (.cells #[.string s, .bool q] 37)) := (Keeps.refl NoB wu).alloc _
  have hl := own_lit (E := encPc) (e := 37) (w := wu) (S := fun _ => True) [(s, q)] #[.string s, .bool q] rfl 1 rfl trivial (by decide)
  refine ((h.on ka).asks fun N hN => globFiles_any (fp := fpL) hN 1 0 hl.at (by simp) (fun p hp => by rw [List.mem_singleton.1 hp]; exact hs) hok ?_).mono ?_
  · rw [stField_one, List.length_map]
    have := pcs_length s
    omega
  · rintro e w' ⟨v, rfl, h1, h2⟩
    exact ⟨v, rfl, h1.mono (fun g _ hg => Nat.le_trans ka.size hg), ka.trans h2⟩
theorem star_any {W wu : World} {P : Nat → Prop} {F a : Nat} {d : Nds} {room calls fail : Int} (h : FSx W P wu F a d room calls fail) {k : Nat} (hr : RootOk d k) (hk : k ≤ 4096) :
    Calls Tryd.prog 10 #[.pointer (some ⟨F, 0, none⟩), .agg #[.int .i64 1, .int .i64 0], .slice (some ⟨wu.heap.size, 0, none⟩) 1 1] (wu.alloc (.cells #[.string ⟨#[42]⟩, .bool false] 37)) fun e w' =>
      ∃ v, e = .returned v ∧ Own encStr 9 (fun g => wu.heap.size ≤ g) w' v (((nd d 1).ents.filter fun e => !hasDot e.1).map (·.1)) ∧ Keeps NoB wu w' := by
  have := one_any h ⟨#[42]⟩ false (by decide) (by rw [fields_star]; exact ok_star)
  rw [fields_star, files_star h.inv hr hk] at this
  exact this
theorem dots_any {W wu : World} {P : Nat → Prop} {F a : Nat} {d : Nds} {room calls fail : Int} (h : FSx W P wu F a d room calls fail) {k : Nat} (hr : RootOk d k) (hk : k ≤ 4096) :
    Calls Tryd.prog 10 #[.pointer (some ⟨F, 0, none⟩), .agg #[.int .i64 1, .int .i64 0], .slice (some ⟨wu.heap.size, 0, none⟩) 1 1] (wu.alloc (.cells #[.string ⟨#[46, 42]⟩, .bool false] 37)) fun e w' =>
      ∃ v, e = .returned v ∧ Own encStr 9 (fun g => wu.heap.size ≤ g) w' v (((nd d 1).ents.filter fun e => hasDot e.1).map (·.1)) ∧ Keeps NoB wu w' := by
  have := one_any h ⟨#[46, 42]⟩ false (by decide) (by rw [fields_dots]; exact ok_dots)
  rw [fields_dots, files_dots h.inv hr hk] at this
  exact this

theorem anchor21_any (w : World) : Calls Tryd.prog 5 #[] w fun e w' => e = .returned (.bool true) ∧ Keeps NoB w w' := by
  have HB := Lib.hid (begin_any w 100 (-1) (by decide) (by decide))
  go_enter Tryd.func5, Tryd.ntmps5
  go_upto_region 4 with (go_at_call 6; go_loud (refine HB.out.mono ?_); rintro e w1 ⟨F, a, rfl, FS, k1⟩)
  have FX1 := Lib.hid (FSx.new FS k1)
  clear HB FS k1
  go_upto_region 5 with fail
  have HBx := Lib.hid (Bx.new (Keeps.refl NoB (w1.alloc (.cells #[.string ⟨#[97]⟩, .string ⟨#[46, 98]⟩, .string ⟨#[99]⟩] 9))))
  have FX2 := Lib.hid (FX1.out.more (P' := fun g => g = w1.heap.size) ((Keeps.refl NoB w1).alloc (.cells #[.string ⟨#[97]⟩, .string ⟨#[46, 98]⟩, .string ⟨#[99]⟩] 9)) (fun g hg => .inr ⟨by omega, by rw [hg]; simp⟩))
  clear FX1
  rw [ancK_new] at FX2
  generalize w1.alloc (.cells #[.string ⟨#[97]⟩, .string ⟨#[46, 98]⟩, .string ⟨#[99]⟩] 9) = w2 at *
  generalize w1.heap.size = B at *
  go_loopw [19] (fun i wr => ∃ k : Nat, k ≤ 3 ∧ i = .int .i64 k ∧ FSx w (fun g => g = B) wr F a (ancK k) 100 k (-1) ∧ Bx wr B (aNm.map .string)) (fun i _ => 4 - (intOf i).toNat)
  case atStart => exact ⟨0, by decide, rfl, FX2.out, HBx.out⟩
  case round =>
    obtain ⟨k, hk, rfl, hfx, hbx⟩ := hrel
    have FX := Lib.hid hfx
    have HB := Lib.hid hbx
    clear hfx hbx FX2 HBx
    by_cases hlt : k < 3
    · have hlz : (k : Int) < 3 := by omega
      obtain ⟨x, hx⟩ : ∃ x, aNm[k]? = some x := ⟨_, List.getElem?_eq_getElem hlt⟩
      have t0 := HB.out.cell k (.string x) (by rw [List.getElem?_map, hx]; rfl)
      have hxs : x.size ≤ 4294967280 := by
        have : ∀ y ∈ aNm, y.size ≤ 4294967280 := by decide
        exact this x (List.mem_of_getElem? hx)
      have hm := ancK_mass (k := k) (by omega)
      have HM := Lib.hid (fun wx (hy : FSx w (fun g => g = B) wx F a (ancK k) 100 k (-1)) => hy.call fun N h => mkdir_any h (by omega) (by omega) (by omega) 1 0 x 511 hxs)
      have e1 : orFail (k : Int) (-1) (ancK k) (mkdirR (ancK k) 100 1 0 x 511) = mkdirR (ancK k) 100 1 0 x 511 := by unfold orFail callE; rw [if_neg (by rw [if_neg (by omega)]; simp)]
      rw [e1, ancK_step hlt FX.out.inv FX.out.clean hx] at HM
      generalize (mkdirR (ancK k) 100 1 0 x 511).2 = em at *
      have HU := Lib.hid user21_any
      clear e1 hm hxs hx
      go_wp2_with (first | (go_at_call 8; go_loud (refine (HU.out _).mono ?_); rintro e w4 ⟨rfl, hk4⟩) | (go_at_call 7; go_loud (refine (HM.out _ (FX.out.on hk4)).mono ?_); rintro e w5 ⟨rfl, FX5, k5⟩))
      go_roundw
      case rel =>
        refine ⟨k + 1, by omega, by go_num, ?_, (FX.out.on hk4).kept (HB.out.on hk4) k5 rfl⟩
        rw [show ((k + 1 : Nat) : Int) = (k : Int) + 1 by omega]
        exact FX5
      case measure => simp [intOf]; omega
    · obtain rfl : k = 3 := by omega
      have hlz : ¬ ((3 : Nat) : Int) < 3 := by omega
      have HU := Lib.hid user21_any
      have HS1 := Lib.hid (fun wu (k : Keeps NoB wr wu) => star_any (FX.out.on k) ancK_root (by decide))
      have HS2 := Lib.hid (fun wu (k : Keeps NoB wr wu) => dots_any (FX.out.on k) ancK_root (by decide))
      rw [show ((nd (ancK 3) 1).ents.filter fun e => !hasDot e.1).map (·.1) = [⟨#[97]⟩, ⟨#[99]⟩] by decide] at HS1
      rw [show ((nd (ancK 3) 1).ents.filter fun e => hasDot e.1).map (·.1) = [⟨#[46, 98]⟩] by decide] at HS2
      have HKr := Lib.hid FX.out.keeps
      have HU1 := Lib.hid (HU.out wr)
      have HU2 := Lib.hid HU.out
      clear FX HB HU
      go_upto_region 10 with (first
        | (go_at_call 8; have HX := HU1; clear HU1; go_loud (refine HX.out.mono ?_); rintro e w4 ⟨rfl, hk4⟩)
        | (go_at_call 10; have HX := HS1; clear HS1; go_loud (refine (HX.out w4 hk4).mono ?_); rintro e w5 ⟨v5, rfl, ho5, hk5⟩)
        | (go_at_call 8; have HX := HU2; clear HU2; go_loud (refine (HX.out w5).mono ?_); rintro e w6 ⟨rfl, hk6⟩)
        | (go_at_call 10; have HX := HS2; clear HS2; go_loud (refine (HX.out w6 (hk4.trans (hk5.trans hk6))).mono ?_); rintro e w7 ⟨v7, rfl, ho7, hk7⟩))
      obtain ⟨p5, c5, rfl, hs5⟩ := (ho5.keep (hk6.trans hk7) (fun _ _ h => h)).sl
      obtain ⟨p7, c7, rfl, hs7⟩ := ho7.sl
      obtain ⟨g5, o5, rfl, _, _, t0⟩ := hs5.str (i := 0) rfl
      obtain ⟨g5', o5', he, _, _, t1⟩ := hs5.str (i := 1) rfl
      cases he
      obtain ⟨g7, o7, rfl, _, _, t2⟩ := hs7.str (i := 0) rfl
      have hc5 := hs5.cap
      have hc7 := hs7.cap
      have hm5 := hs5.max
      have hm7 := hs7.max
      unfold maxLen at hm5 hm7
      simp only [Nat.add_zero] at t0 t2
      have HKe := Lib.hid (HKr.out.trans (hk4.trans (hk5.trans (hk6.trans hk7))))
      clear ho5 ho7 hk4 hk5 hk6 hk7 hs5 hs7 HKr
      go_wp2_with fail
      go_ret
      exact ⟨rfl, HKe.out⟩

end Go.Proofs.YtfomkkoecelakaaDoor

/-
  Layer 21's statements: the files that names make.
-/
set_option maxRecDepth 100000
set_option maxHeartbeats 8000000
namespace Go.Proofs.YtfomkkoecelakaaDoor
open Go Go.RowKit

/-- Behind k names. -/
structure GJ (W w : World) (F a : Nat) (k : Nat) (d : Nds) : Prop where
  fx : FSx W NoB w F a d 65536 k (-1)
  root : RootOk d k
  ms : mass d ≤ 2 + 3 * k

section
variable {W w w' : World} {F a k : Nat} {d : Nds}
theorem GJ.on (h : GJ W w F a k d) (hk : Keeps NoB w w') : GJ W w' F a k d := ⟨h.fx.on hk, h.root, h.ms⟩
theorem GJ.new (h : FSx W NoB w F a newD 65536 0 (-1)) : GJ W w F a 0 newD := ⟨h, RootOk.new, by rw [mass_new]; decide⟩
theorem GJ.mkdir (h : GJ W w F a k d) (hk : k ≤ 20) (x : ByteArray) (hx : x.size ≤ 4294967280) :
    Calls Tryd.prog 7 #[.pointer (some ⟨F, 0, none⟩), .agg #[.int .i64 1, .int .i64 0], .string x, .int .i64 511] w fun e w' => ∃ v : Int, e = .returned (.int .i64 v) ∧ ∃ d', GJ W w' F a (k + 1) d' := by
  have hms := h.ms
  have e1 : orFail (k : Int) (-1) d (mkdirR d 65536 1 0 x 511) = mkdirR d 65536 1 0 x 511 := by unfold orFail callE; rw [if_neg (by rw [if_neg (by omega)]; simp)]
  have hm := h.fx.call fun N h => mkdir_any h (by omega) (by omega) (by omega) 1 0 x 511 hx
  rw [e1] at hm
  refine hm.mono ?_
  rintro e w' ⟨rfl, hfx, _⟩
  refine ⟨_, rfl, _, ⟨by rw [show ((k + 1 : Nat) : Int) = (k : Int) + 1 by omega]; exact hfx, h.root.mkdir 1 0 x 511, ?_⟩⟩
  have := mkdirR_mass (d := d) (room := 65536) 1 0 x 511
  omega
end

end Go.Proofs.YtfomkkoecelakaaDoor
