/- The machine of our own: a step of a region, frames, results, and code whose regions draw nothing. -/
import Derived.Test.YtoimffkejoeadaaGreatDoorVm11
namespace Go.Proofs.YtoimffkejoeadaaGreatDoor.Vm
open Go Go.RowKit
set_option linter.unusedVariables false
set_option linter.unusedSimpArgs false

def putD (d : Option Tmp) (v : Value) (fr : Fr) : Fr := match d with | some d => putF d v fr | none => fr
theorem putK_eq {γ : Type} (d : Option Tmp) (fr : Fr) (v : Value) (k : Fr → γ) : putK d fr v k = k (putD d v fr) := by
  cases d with
  | none => rfl
  | some d => exact setF_eq d v fr k

theorem wp_of_does {P : Program} {o : Oper} {a : Act} {W : World} {R : Value → World → Prop} {K : Act → World → Prop} {Q : Exit → Act → World → Prop} (h : Does P W (execOp a.eval o) R) (hK : ∀ r W', R r W' → K (a.put o.dst r) W') :
    o.wp P a W K Q := by
  unfold Does at h
  unfold Oper.wp
  generalize (execOp a.eval o).run P W = x at h
  cases x with
  | ok n w =>
    cases n with
    | value v => exact hK _ _ h
    | skip => exact hK _ _ h
    | enter f args =>
      refine Calls.mono h fun e w' he => ?_
      obtain ⟨r, rfl, hr⟩ := he
      exact hK _ _ hr
    | _ => exact h.elim
  | halt _ _ => exact h.elim

/-- What one operation of a region does. -/
def StepR (P : Program) (W0 : World) (ops : Array Oper) (i : Nat) (o : Oper) (fr : Fr) (s : PS) (fr1 : Fr) (s1 : PS) : Prop :=
  (∀ x ∈ o.op.operands, constOk x = true) ∧ ∃ v, fr1 = putD o.dst v fr ∧ PL s s1 ∧ ∀ M, MaskIn s1 M → ∀ ι (a : Act) W, RH W0 ι M (hv s.heap) W → (∀ x ∈ o.op.operands, VR ι (opd x fr) (a.eval x)) →
    (∀ j b d, o.guard = some (j, b) → (ops[j]?).bind (·.dst) = some d → VR ι (getF d fr) (a.tmps.getD d undef)) → Fresh ι s.next s1.next →
    ∀ (K : Act → World → Prop) (Q : Exit → Act → World → Prop), (∀ ι' r W', VR ι' v r → Post W0 M ι (hv s.heap) W s.next ι' (hv s1.heap) W' s1.next → K (a.put o.dst r) W') → wpOp P ops Q i K a W

section
variable {P : Program} {W0 : World} {E : Addr → Option Value} {o : Oper} {fr : Fr} {s : PS} {mt : List Meth} {call : Caller} {ops : Array Oper} {i : Nat}

theorem yielded_eq {ι : Nat → Option Info} {a : Act} {j d : Nat} (hd : (ops[j]?).bind (·.dst) = some d) (h : VR ι (getF d fr) (a.tmps.getD d undef)) : yielded ops a.tmps j = vB (getF d fr) := by
  rw [← h.vB]
  unfold yielded
  rw [hd]
  simp only [Option.bind_some]
  cases ht : a.tmps[d]? with
  | none =>
    have : a.tmps.getD d undef = undef := by simp [ht]
    rw [this]; rfl
  | some v =>
    have : a.tmps.getD d undef = v := by simp [ht]
    rw [this]
    cases v <;> rfl

theorem skip_ok (hoi : ops[i]? = some o) (hcs : ∀ x ∈ o.op.operands, constOk x = true) {fr1 : Fr} {s1 : PS} (h : opSkip o fr s = .ok fr1 s1)
    (hw : ∀ ι (a : Act), (∀ j b d, o.guard = some (j, b) → (ops[j]?).bind (·.dst) = some d → VR ι (getF d fr) (a.tmps.getD d undef)) → Region.wanted o (yielded ops a.tmps) = false) : StepR P W0 ops i o fr s fr1 s1 := by
  unfold opSkip at h
  rw [putK_eq] at h
  injection h with h1 h2
  subst h1
  subst h2
  refine ⟨hcs, undef, rfl, PL.refl s, fun M hM ι a W hR hops hg hF K Q hK => ?_⟩
  unfold wpOp
  simp only [hoi, hw ι a hg]
  exact hK ι undef W .undef (Post.refl hR _ _)

variable (hE : ∀ a v, E a = some v → W0.cell? a = some v ∧ atom v = true) (hmt : ∀ m ∈ mt, MethOk P m) (hC : CallOk P W0 call)
include hE hmt hC
theorem opGo_ok (hoi : ops[i]? = some o) (hcs : ∀ x ∈ o.op.operands, constOk x = true) {fr1 : Fr} {s1 : PS} (h : opGo P E mt o call fr s = .ok fr1 s1)
    (hw : ∀ ι (a : Act), (∀ j b d, o.guard = some (j, b) → (ops[j]?).bind (·.dst) = some d → VR ι (getF d fr) (a.tmps.getD d undef)) → Region.wanted o (yielded ops a.tmps) = true) : StepR P W0 ops i o fr s fr1 s1 := by
  unfold opGo at h
  have hp := pop_ok (o := o) (fr := fr) (s := s) (no := OR.no) (k := fun v s => putK o.dst fr v fun fr => OR.ok fr s) hE hmt hC
  rcases hp with hp | ⟨v, s2, hp, hpl, hok⟩
  · rw [hp] at h; cases h
  · rw [hp] at h
    simp only [putK_eq] at h
    injection h with h1 h2
    subst h1
    subst h2
    refine ⟨hcs, v, rfl, hpl, fun M hM ι a W hR hops hg hF K Q hK => ?_⟩
    unfold wpOp
    simp only [hoi, hw ι a hg, if_true]
    refine .inl (wp_of_does (hok M hM ι a.eval W hR hops hF) fun r W' hgood => ?_)
    obtain ⟨ι', hvr, hpost⟩ := hgood
    exact hK ι' r W' hvr hpost

theorem step_ok (hoi : ops[i]? = some o) {fr1 : Fr} {s1 : PS} (h : opStep P E mt ops o call fr s = .ok fr1 s1) : StepR P W0 ops i o fr s fr1 s1 := by
  unfold opStep at h
  cases hcs : o.op.operands.toList.all constOk with
  | false => rw [hcs] at h; cases h
  | true =>
    have hcs' : ∀ x ∈ o.op.operands, constOk x = true := fun x hx => List.all_eq_true.1 hcs x (by simpa using hx)
    rw [hcs] at h
    simp only [cond_true] at h
    cases hg : o.guard with
    | none =>
      rw [hg] at h
      exact opGo_ok hE hmt hC hoi hcs' h fun ι a _ => by simp [Region.wanted, hg]
    | some jb =>
      obtain ⟨j, b⟩ := jb
      rw [hg] at h
      cases hd : (ops[j]?).bind (·.dst) with
      | none => cases b <;> (simp only [hd] at h; cases h)
      | some d =>
        have hy : ∀ ι (a : Act), (∀ j b d, o.guard = some (j, b) → (ops[j]?).bind (·.dst) = some d → VR ι (getF d fr) (a.tmps.getD d undef)) → yielded ops a.tmps j = vB (getF d fr) :=
          fun ι a hgd => yielded_eq hd (hgd j b d hg hd)
        cases hv : vB (getF d fr) with
        | none =>
          have : opSkip o fr s = .ok fr1 s1 := by
            cases b <;> (simp only [hd, hv] at h; exact h)
          exact skip_ok hoi hcs' this fun ι a hgd => by simp [Region.wanted, hg, hy ι a hgd, hv]
        | some t =>
          by_cases htb : t = b
          · have : opGo P E mt o call fr s = .ok fr1 s1 := by
              subst htb
              cases t <;> (simp only [hd, hv] at h; exact h)
            exact opGo_ok hE hmt hC hoi hcs' this fun ι a hgd => by simp [Region.wanted, hg, hy ι a hgd, hv, htb]
          · have : opSkip o fr s = .ok fr1 s1 := by
              cases b <;> cases t <;> first | exact absurd rfl htb | (simp only [hd, hv] at h; exact h)
            exact skip_ok hoi hcs' this fun ι a hgd => by simp [Region.wanted, hg, hy ι a hgd, hv, htb]
end

/-! ### Frames -/
structure FRel (ι : Nat → Option Info) (n : Nat) (fr : Fr) (a : Act) : Prop where
  size : a.tmps.size = n
  le : n ≤ 256
  slot : ∀ t, t < n → VR ι (getF t fr) (a.tmps.getD t undef)
theorem FRel.mono {ι ι' : Nat → Option Info} {n : Nat} {fr : Fr} {a : Act} (h : FRel ι n fr a) (e : ∀ b i, ι b = some i → ι' b = some i) : FRel ι' n fr a := ⟨h.size, h.le, fun t ht => (h.slot t ht).mono e⟩
theorem FRel.put {ι : Nat → Option Info} {n : Nat} {fr : Fr} {a : Act} (h : FRel ι n fr a) {d : Option Tmp} (hd : ∀ t, d = some t → t < n) {v r : Value} (hv : VR ι v r) : FRel ι n (putD d v fr) (a.put d r) := by
  cases d with
  | none => exact h
  | some d =>
    have hdn := hd d rfl
    refine ⟨by simp [Act.put, h.size], h.le, fun t ht => ?_⟩
    by_cases htd : t = d
    · subst htd
      have : (a.put (some t) r).tmps.getD t undef = r := by
        simp [Act.put, h.size, ht]
      rw [this]
      show VR ι (getF t (putF t v fr)) r
      rw [getF_same]; exact hv
    · have : (a.put (some d) r).tmps.getD t undef = a.tmps.getD t undef := by
        simp [Act.put, Array.getElem?_setIfInBounds_ne (Ne.symm htd)]
      rw [this]
      show VR ι (getF t (putF d v fr)) _
      rw [getF_other d t v fr (Nat.lt_of_lt_of_le hdn h.le) (Nat.lt_of_lt_of_le ht h.le) htd]
      exact h.slot t ht
theorem put_defers (a : Act) (d : Option Tmp) (v : Value) : (a.put d v).defers = a.defers := by cases d <;> rfl
theorem FRel.opd {ι : Nat → Option Info} {n : Nat} {fr : Fr} {a : Act} (h : FRel ι n fr a) {x : Operand} (hx : slotOk n x = true) (hc : constOk x = true) : VR ι (Vm.opd x fr) (a.eval x) := by
  cases x with
  | tmp t => exact h.slot t (blt_lt hx)
  | const v => exact .of_plain hc
  | global g => exact .atom rfl
  | func f => exact .func (l := []) (l' := []) (m := []) (m' := []) rfl (fun i u v h => by simp at h) rfl (fun i u v h => by simp at h)
theorem operOk_spec {n : Nat} {o : Oper} (h : operOk n o = true) : (∀ x ∈ o.op.operands, slotOk n x = true) ∧ ∀ t, o.dst = some t → t < n := by
  unfold operOk at h
  rw [Bool.and_eq_true] at h
  refine ⟨fun x hx => List.all_eq_true.1 h.1 x (by simpa using hx), fun t ht => ?_⟩
  have := h.2
  rw [ht] at this
  exact blt_lt this

/-! ### Regions that draw nothing -/
def ExecR (P : Program) (W0 : World) (nt : Nat) (c : Code) (fr : Fr) (s : PS) (e : Exit) (fr1 : Fr) (s1 : PS) : Prop :=
  PL s s1 ∧ ∀ M, MaskIn s1 M → ∀ ι (a : Act) W, RH W0 ι M (hv s.heap) W → FRel ι nt fr a → Fresh ι s.next s1.next → ∀ Q : Exit → Act → World → Prop,
    (∀ ι' a' W', FRel ι' nt fr1 a' → a'.defers = a.defers → Post W0 M ι (hv s.heap) W s.next ι' (hv s1.heap) W' s1.next → Q e a' W') → c.wp P Q a W
theorem Fresh.next {W0 : World} {M : Nat → Prop} {ι ι' : Nat → Option Info} {h h' : Nat → Option PB} {W W' : World} {n n1 n2 : Nat} (hF : Fresh ι n n2) (hp : Post W0 M ι h W n ι' h' W' n1) (h1 : n ≤ n1) : Fresh ι' n1 n2 := fun b hb hb2 => by
  cases e : ι' b with
  | none => rfl
  | some i =>
    have := hp.new b (hF b (by omega) hb2) (by simp [e])
    omega
theorem Fresh.left {ι : Nat → Option Info} {n n1 n2 : Nat} (hF : Fresh ι n n2) (h : n1 ≤ n2) : Fresh ι n n1 := fun b hb hb2 => hF b hb (by omega)

section
variable {P : Program} {W0 : World} {E : Addr → Option Value} {mt : List Meth} {call : Caller} {ops : Array Oper}
variable (hE : ∀ a v, E a = some v → W0.cell? a = some v ∧ atom v = true) (hmt : ∀ m ∈ mt, MethOk P m) (hC : CallOk P W0 call)
include hE hmt hC
theorem text_ok {nt : Nat} (hops : ∀ o ∈ ops.toList, operOk nt o = true) : ∀ (l : List Oper) (i : Nat) (fr : Fr) (s : PS) (fr1 : Fr) (s1 : PS), (∀ j o, l[j]? = some o → ops[i + j]? = some o) → opsText P E mt ops l call fr s = .ok fr1 s1 →
    PL s s1 ∧ ∀ M, MaskIn s1 M → ∀ ι (a : Act) W, RH W0 ι M (hv s.heap) W → FRel ι nt fr a → Fresh ι s.next s1.next → ∀ Q : Exit → Act → World → Prop,
      (∀ ι' a' W', FRel ι' nt fr1 a' → a'.defers = a.defers → Post W0 M ι (hv s.heap) W s.next ι' (hv s1.heap) W' s1.next → Q .normal a' W') → wpOps P ops Q (List.range' i l.length) a W
  | [], i, fr, s, fr1, s1, hl, h => by
    have h' : OR.ok fr s = .ok fr1 s1 := h
    injection h' with h1 h2
    subst h1
    subst h2
    exact ⟨PL.refl s, fun M hM ι a W hR hfr hF Q hQ => hQ ι a W hfr rfl (Post.refl hR _ _)⟩
  | o :: l, i, fr, s, fr1, s1, hl, h => by
    have h' : (OR.rec (motive := fun _ => OR) .no (fun fr s => opsText P E mt ops l call fr s) (opStep P E mt ops o call fr s) : OR) = .ok fr1 s1 := h
    cases hst : opStep P E mt ops o call fr s with
    | no => rw [hst] at h'; cases h'
    | ok fr2 s2 =>
      rw [hst] at h'
      have hoi : ops[i]? = some o := by simpa using hl 0 o rfl
      obtain ⟨hcs, v, hfr2, hpl, hstep⟩ := step_ok hE hmt hC hoi hst
      obtain ⟨hpl2, hrest⟩ := text_ok hops l (i + 1) fr2 s2 fr1 s1 (fun j o hj => by rw [Nat.add_assoc, Nat.add_comm 1 j]; exact hl (j + 1) o (by simpa using hj)) h'
      refine ⟨hpl.trans hpl2, fun M hM ι a W hR hfr hF Q hQ => ?_⟩
      have hmem : o ∈ ops.toList := by simpa using Array.mem_of_getElem? hoi
      obtain ⟨ho1, ho2⟩ := operOk_spec (hops o hmem)
      rw [show List.range' i (o :: l).length = i :: List.range' (i + 1) l.length from by simp [List.range'_succ], wpOps_cons]
      refine hstep M (hM.back hpl2) ι a W hR (fun x hx => hfr.opd (ho1 x hx) (hcs x hx)) (fun j b d hg hd => hfr.slot d ?_) (hF.left hpl2.next) _ _ fun ι' r W' hvr hpost => ?_
      · cases hoj : ops[j]? with
        | none => simp [hoj] at hd
        | some oj =>
          simp [hoj] at hd
          exact (operOk_spec (hops oj (by simpa using Array.mem_of_getElem? hoj))).2 d hd
      · refine hrest M hM ι' _ W' hpost.rh (by rw [hfr2]; exact (hfr.mono hpost.ext).put ho2 hvr) (hF.next hpost hpl.next) Q fun ι'' a'' W'' h1 h2 h3 => ?_
        exact hQ ι'' a'' W'' h1 (by rw [h2, put_defers]) (hpost.trans h3 hpl.next hpl2.next)
end
end Go.Proofs.YtoimffkejoeadaaGreatDoor.Vm
