/- The machine of our own: regions that draw their order, part 4. -/
import Derived.Test.YtoimffkejoeadaaGreatDoorVm15
namespace Go.Proofs.YtoimffkejoeadaaGreatDoor.Vm
open Go Go.RowKit
set_option linter.unusedVariables false
set_option linter.unusedSimpArgs false

/-- Two operations that do not look at each other's. -/
structure Indep (ops : Array Oper) (x y : Rc) : Prop where
  out : ∀ d, x.o.dst = some d → d ∉ y.o.looksAt ops
  ne : ∀ d, x.o.dst = some d → y.o.dst ≠ some d
  back : ∀ d, y.o.dst = some d → d ∉ x.o.looksAt ops
  wr : ∀ b, ¬ (inM x.t.wr b ∧ (inM y.t.rd b ∨ inM y.t.wr b))

section
variable {P : Program} {W0 : World} {ops : Array Oper} {L : List Rc} {nt : Nat} {fr0 frN : Fr} {h0 hN : Hp} {n0 nN : Nat}

/-- What holds on the way. -/
structure Way (P : Program) (W0 : World) (ops : Array Oper) (L : List Rc) (nt : Nat) (fr0 : Fr) (h0 : Hp) (n0 nN : Nat) (M : Nat → Prop) (ι0 : Nat → Option Info) (a0 : Act) (W1 : World) (listed : Array Bool) (a : Act) (W : World) (ι : Nat → Option Info) : Prop where
  size : listed.size = ops.size
  closed : ∀ j o, listed.getD j false = true → ops[j]? = some o → ∀ e ∈ o.after, Region.binds .any e = true → listed.getD e.on false = true
  defers : a.defers = a0.defers
  frame : FRel ι nt (FS (fun i => listed.getD i false) 0 L fr0) a
  post : Post W0 M ι0 (hv h0) W1 n0 ι (HS (fun i => listed.getD i false) 0 L (hv h0)) W nN
  fresh : ∀ (k : Nat) (r : Rc), L[k]? = some r → listed.getD k false = false → ∀ b, r.n ≤ b → b < r.t.next → ι b = none

theorem opd_look {o : Oper} {fr fr' : Fr} (h : ∀ t, t ∈ o.looksAt ops → getF t fr = getF t fr') : ∀ x ∈ o.op.operands, opd x fr = opd x fr' := fun x hx => by
  cases x with
  | tmp t => exact h t (List.mem_append_left _ (List.mem_filterMap.2 ⟨.tmp t, by simpa using hx, rfl⟩))
  | _ => rfl

theorem way_step {M : Nat → Prop} {ι0 : Nat → Option Info} {a0 : Act} {W1 : World} (hc : Chain P W0 ops 0 fr0 h0 n0 L frN hN nN) (hLn : L.length = ops.size) (hbm : ∀ (k : Nat) (r : Rc), L[k]? = some r → (aheads ops.toList [])[k]? = some r.bm)
    (hap : ∀ (i j : Nat) (x y : Rc), i < j → L[i]? = some x → L[j]? = some y → Nat.testBit y.bm i = true ∨ (Indep ops x y ∧ Indep ops y x))
    (hok : ∀ o ∈ ops.toList, operOk nt o = true) (hnt : nt ≤ 256) (hM : ∀ (k : Nat) (r : Rc), L[k]? = some r → ∀ b, inM r.t.rd b ∨ inM r.t.wr b → M b) {Q : Exit → Act → World → Prop}
    {listed : Array Bool} {a : Act} {W : World} {j : Nat} (hI : ∃ ι, Way P W0 ops L nt fr0 h0 n0 nN M ι0 a0 W1 listed a W ι) (hj : j ∈ Region.ready .any ops listed) :
    wpOp P ops Q j (fun a W => ∃ ι, Way P W0 ops L nt fr0 h0 n0 nN M ι0 a0 W1 (listed.setIfInBounds j true) a W ι) a W := by
  obtain ⟨ι, hI⟩ := hI
  obtain ⟨hjun, o, hoj, hedges⟩ := mem_ready.1 hj
  have hjlt : j < ops.size := (Array.getElem?_eq_some_iff.1 hoj).1
  have hjl : j < listed.size := by rw [hI.size]; exact hjlt
  have hSj : listed.getD j false = false := by
    simp [hjl] at hjun ⊢
    exact hjun
  obtain ⟨r, hr⟩ : ∃ r, L[j]? = some r := ⟨L[j]'(by omega), List.getElem?_eq_getElem _⟩
  obtain ⟨hro, hcs, hst⟩ := chain_at hc j r hr
  rw [Nat.zero_add] at hro hst
  rw [hoj] at hro
  injection hro with hro
  subst hro
  have hmem : r.o ∈ ops.toList := by simpa using Array.mem_of_getElem? hoj
  obtain ⟨ho1, ho2⟩ := operOk_spec (hok r.o hmem)
  have hdst : ∀ (k : Nat) (x : Rc), L[k]? = some x → ∀ d, x.o.dst = some d → d < nt := fun k x hk d hd => by
    have := (chain_at hc k x hk).1
    exact (operOk_spec (hok x.o (by simpa using Array.mem_of_getElem? this))).2 d hd
  have hdst' : ∀ (k : Nat) (x : Rc), L[k]? = some x → ∀ d, x.o.dst = some d → d < 256 := fun k x hk d hd => Nat.lt_of_lt_of_le (hdst k x hk d hd) hnt
  -- the others: of those that matter the listed ones are the ones ahead
  have key : ∀ (i : Nat) (x : Rc), L[i]? = some x → i ≠ j → listed.getD i false = decide (i < j) ∨ (Indep ops x r ∧ Indep ops r x) := fun i x hx hne => by
    rcases Nat.lt_or_ge i j with hlt | hge
    · rcases hap i j x r hlt hx hr with hb | hb
      · left
        have := ahead_in (S := fun i => listed.getD i false = true) hI.closed j r.o r.bm hoj (hbm j r hr) hedges i hb
        rw [this]
        simp [hlt]
      · exact .inr hb
    · have hlt : j < i := by omega
      rcases hap j i r x hlt hr hx with hb | hb
      · left
        have hnot : listed.getD i false = false := by
          cases hSi : listed.getD i false with
          | false => rfl
          | true =>
            have hoi := (chain_at hc i x hx).1
            rw [Nat.zero_add] at hoi
            have := ahead_in (S := fun i => listed.getD i false = true) hI.closed i x.o x.bm hoi (hbm i x hx) (hI.closed i x.o hSi hoi) j hb
            rw [hSj] at this
            cases this
        rw [hnot]
        symm
        simp
        omega
      · exact .inr ⟨hb.2, hb.1⟩
  obtain ⟨hF1, hF2⟩ := (chain_F hc).2 j r hr
  obtain ⟨hH1, hH2⟩ := (chain_H hc).2 j r hr
  rw [Nat.zero_add] at hF1 hF2 hH1 hH2
  have look : ∀ t, t < nt → t ∈ r.o.looksAt ops → getF t r.fr = getF t (FS (fun i => listed.getD i false) 0 L fr0) := fun t ht hl => by
    rw [hF1]
    refine (FS_agree (Nat.lt_of_lt_of_le ht hnt) L 0 fr0 fr0 hdst' rfl fun k x hk hd => ?_).symm
    rw [Nat.zero_add]
    by_cases hkj : k = j
    · subst hkj; rw [hSj]; simp
    · rcases key k x hk hkj with h | h
      · exact h
      · exact absurd hl (h.1.out t hd)
  have hblk : ∀ b, inM r.t.rd b ∨ inM r.t.wr b → hv r.h b = HS (fun i => listed.getD i false) 0 L (hv h0) b := fun b hb => by
    rw [hH1]
    refine (HS_agree L 0 _ _ rfl fun k x hk hw => ?_).symm
    rw [Nat.zero_add]
    by_cases hkj : k = j
    · subst hkj; rw [hSj]; simp
    · rcases key k x hk hkj with h | h
      · exact h
      · exact absurd ⟨hw, hb⟩ (h.1.wr b)
  have slotlt : ∀ t, t ∈ r.o.looksAt ops → t < nt := fun t ht => by
    rcases List.mem_append.1 ht with ht | ht
    · obtain ⟨x, hx, hxt⟩ := List.mem_filterMap.1 ht
      cases x with
      | tmp t' => simp at hxt; subst hxt; exact blt_lt (ho1 (.tmp t') (by simpa using hx))
      | _ => simp at hxt
    · cases hg : r.o.guard with
      | none => simp [hg] at ht
      | some gb =>
        obtain ⟨g, b⟩ := gb
        rw [hg] at ht
        simp only at ht
        cases hog : ops[g]? with
        | none => simp [hog] at ht
        | some og =>
          simp [hog] at ht
          exact (operOk_spec (hok og (by simpa using Array.mem_of_getElem? hog))).2 t ht
  have hS' : ∀ i, (listed.setIfInBounds j true).getD i false = if i = j then true else listed.getD i false := fun i => by
    by_cases hij : i = j
    · subst hij; simp [hjl]
    · rw [if_neg hij, getD_set_ne false (Ne.symm hij)]
  refine hst.2 (fun b => inM r.t.rd b ∨ inM r.t.wr b) (fun b hb => hb) ι a W (hI.post.rh.sub fun b hb => ⟨hM j r hr b hb, hblk b hb⟩) (fun x hx => ?_) (fun g b d hg hd => ?_) (fun b hb1 hb2 => hI.fresh j r hr hSj b hb1 hb2) _ Q fun ι' rv W' hvr hp => ?_
  · rw [opd_look (fun t ht => look t (slotlt t ht) ht) x hx]
    exact hI.frame.opd (ho1 x hx) (hcs x hx)
  · have hdl : d ∈ r.o.looksAt ops := by
      refine List.mem_append_right _ ?_
      rw [hg]
      simp only [hd]
      simp
    rw [look d (slotlt d hdl) hdl]
    exact hI.frame.slot d (slotlt d hdl)
  · obtain ⟨hn1, hn2, hn3⟩ := (chain_next hc).2.1 j r hr
    refine ⟨ι', by simp [hI.size], fun i oi hi hoi e he heb => ?_, by rw [put_defers]; exact hI.defers, ?_, ?_, fun k x hk hx b hb1 hb2 => ?_⟩
    · rw [hS'] at hi ⊢
      split
      · rfl
      · by_cases hij : i = j
        · subst hij
          rw [hoj] at hoi
          injection hoi with hoi
          subst hoi
          exact hedges e he heb
        · rw [if_neg hij] at hi
          exact hI.closed i oi hi hoi e he heb
    · have hput := (hI.frame.mono hp.ext).put ho2 hvr
      refine ⟨hput.size, hput.le, fun t ht => ?_⟩
      have e : getF t (FS (fun i => (listed.setIfInBounds j true).getD i false) 0 L fr0) = getF t (putD r.o.dst r.v (FS (fun i => listed.getD i false) 0 L fr0)) := by
        have ht' := Nat.lt_of_lt_of_le ht hnt
        rw [getF_putD (hdst' j r hr) ht']
        by_cases hd : r.o.dst = some t
        · rw [if_pos hd]
          have e1 : getF t (FS (fun i => decide (i < j + 1)) 0 L fr0) = r.v := by
            rw [← hF2, getF_putD (hdst' j r hr) ht', if_pos hd]
          rw [← e1]
          refine FS_agree ht' L 0 fr0 fr0 hdst' rfl fun k x hk hdx => ?_
          simp only [Nat.zero_add]
          rw [hS']
          by_cases hkj : k = j
          · subst hkj; simp
          · rw [if_neg hkj]
            rcases key k x hk hkj with h | h
            · rw [h]; apply decide_eq_decide.2; omega
            · exact absurd hd (h.1.ne t hdx)
        · rw [if_neg hd]
          refine FS_agree ht' L 0 fr0 fr0 hdst' rfl fun k x hk hdx => ?_
          simp only [Nat.zero_add]
          rw [hS']
          by_cases hkj : k = j
          · subst hkj
            rw [hr] at hk
            injection hk with hk
            subst hk
            exact absurd hdx hd
          · rw [if_neg hkj]
      rw [e]
      exact hput.slot t ht
    · have hlift := hp.lift (H' := HS (fun i => (listed.setIfInBounds j true).getD i false) 0 L (hv h0)) hI.post.rh (fun b hb => ⟨hM j r hr b hb, hblk b hb⟩) (fun b hb => ?_) (fun b hb => ?_)
      · exact hI.post.comp (hlift.widen hn1 hn3)
      · rw [hH2]
        refine HS_agree L 0 _ _ rfl fun k x hk hw => ?_
        simp only [Nat.zero_add]
        rw [hS']
        by_cases hkj : k = j
        · subst hkj; simp
        · rw [if_neg hkj]
          rcases key k x hk hkj with h | h
          · rw [h]; apply decide_eq_decide.2; omega
          · exact absurd ⟨hw, hb⟩ (h.1.wr b)
      · refine HS_agree L 0 _ _ rfl fun k x hk hw => ?_
        simp only [Nat.zero_add]
        rw [hS']
        by_cases hkj : k = j
        · subst hkj
          rw [hr] at hk
          injection hk with hk
          subst hk
          exact absurd (.inr hw) hb
        · rw [if_neg hkj]
    · rw [hS'] at hx
      by_cases hkj : k = j
      · rw [if_pos hkj] at hx; cases hx
      · rw [if_neg hkj] at hx
        have hnone := hI.fresh k x hk hx b hb1 hb2
        cases hι : ι' b with
        | none => rfl
        | some i =>
          have hnew := hp.new b hnone (by simp [hι])
          simp only at hnew
          rcases Nat.lt_or_ge k j with hlt | hge
          · have := (chain_next hc).2.2 k j x r hlt hk hr
            omega
          · have := (chain_next hc).2.2 j k r x (by omega) hr hk
            omega
end
end Go.Proofs.YtoimffkejoeadaaGreatDoor.Vm
