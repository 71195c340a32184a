/- The machine of our own: regions that draw their order, part 3. -/
import Derived.Test.YtoimffkejoeadaaGreatDoorVm14
namespace Go.Proofs.YtoimffkejoeadaaGreatDoor.Vm
open Go Go.RowKit
set_option linter.unusedVariables false
set_option linter.unusedSimpArgs false

/-! ### What the operations of a set leave -/
noncomputable def FS (S : Nat → Bool) : Nat → List Rc → Fr → Fr
  | _, [], fr => fr
  | j, r :: L, fr => FS S (j + 1) L (bif S j then putD r.o.dst r.v fr else fr)
noncomputable def HS (S : Nat → Bool) : Nat → List Rc → (Nat → Option PB) → Nat → Option PB
  | _, [], h => h
  | j, r :: L, h => HS S (j + 1) L (bif S j then (fun b => bif Nat.testBit r.t.wr b then hv r.t.heap b else h b) else h)

theorem getF_putD {d : Option Tmp} {t : Tmp} {v : Value} {fr : Fr} (hd : ∀ x, d = some x → x < 256) (ht : t < 256) : getF t (putD d v fr) = if d = some t then v else getF t fr := by
  cases d with
  | none => rfl
  | some d =>
    by_cases h : d = t
    · subst h; simp [putD, getF_same]
    · have h' : ¬ (some d = some t) := fun e => h (by injection e)
      rw [if_neg h']
      exact getF_other d t v fr (hd d rfl) ht (Ne.symm h)

theorem FS_agree {S S' : Nat → Bool} {t : Tmp} (ht : t < 256) : ∀ (L : List Rc) (j : Nat) (fr fr' : Fr), (∀ (k : Nat) (r : Rc), L[k]? = some r → ∀ d, r.o.dst = some d → d < 256) → getF t fr = getF t fr' →
    (∀ (k : Nat) (r : Rc), L[k]? = some r → r.o.dst = some t → S (j + k) = S' (j + k)) → getF t (FS S j L fr) = getF t (FS S' j L fr')
  | [], j, fr, fr', hd, h, hs => h
  | r :: L, j, fr, fr', hd, h, hs => by
    refine FS_agree ht L (j + 1) _ _ (fun k r hk => hd (k + 1) r (by simpa using hk)) ?_ fun k r hk hr => by
      have := hs (k + 1) r (by simpa using hk) hr
      rwa [show j + 1 + k = j + (k + 1) by omega]
    have hd0 := hd 0 r rfl
    have h0 := hs 0 r rfl
    rw [Nat.add_zero] at h0
    by_cases hr : r.o.dst = some t
    · rw [h0 hr]
      cases S' j with
      | true => simp only [cond_true, getF_putD hd0 ht, if_pos hr]
      | false => simpa using h
    · have e : ∀ (b : Bool) (fr : Fr), getF t (bif b then putD r.o.dst r.v fr else fr) = getF t fr := fun b fr => by
        cases b with
        | true => simp only [cond_true, getF_putD hd0 ht, if_neg hr]
        | false => rfl
      rw [e, e, h]
theorem HS_agree {S S' : Nat → Bool} {b : Nat} : ∀ (L : List Rc) (j : Nat) (h h' : Nat → Option PB), h b = h' b → (∀ (k : Nat) (r : Rc), L[k]? = some r → inM r.t.wr b → S (j + k) = S' (j + k)) → HS S j L h b = HS S' j L h' b
  | [], j, h, h', hh, hs => hh
  | r :: L, j, h, h', hh, hs => by
    refine HS_agree L (j + 1) _ _ ?_ fun k r hk hr => by
      have := hs (k + 1) r (by simpa using hk) hr
      rwa [show j + 1 + k = j + (k + 1) by omega]
    have h0 := hs 0 r rfl
    rw [Nat.add_zero] at h0
    cases hw : Nat.testBit r.t.wr b with
    | true =>
      rw [h0 hw]
      cases S' j with
      | true => simp [hw]
      | false => simpa using hh
    | false =>
      cases S j <;> cases S' j <;> simp [hw, hh]
theorem FS_none {S : Nat → Bool} : ∀ (L : List Rc) (j : Nat) (fr : Fr), (∀ i, j ≤ i → S i = false) → FS S j L fr = fr
  | [], j, fr, h => rfl
  | r :: L, j, fr, h => by
    show FS S (j + 1) L (bif S j then _ else fr) = fr
    rw [h j (Nat.le_refl _)]
    exact FS_none L (j + 1) fr fun i hi => h i (by omega)
theorem HS_none {S : Nat → Bool} : ∀ (L : List Rc) (j : Nat) (hh : Nat → Option PB), (∀ i, j ≤ i → S i = false) → HS S j L hh = hh
  | [], j, fr, h => rfl
  | r :: L, j, hh, h => by
    show HS S (j + 1) L (bif S j then _ else hh) = hh
    rw [h j (Nat.le_refl _)]
    exact HS_none L (j + 1) hh fun i hi => h i (by omega)

section
variable {P : Program} {W0 : World} {ops : Array Oper}
theorem heap_step {h : Hp} {n : Nat} {t : PS} (hp : PL ⟨h, n, 0, 0⟩ t) : (fun b => bif Nat.testBit t.wr b then hv t.heap b else hv h b) = hv t.heap := by
  funext b
  cases hw : Nat.testBit t.wr b with
  | true => rfl
  | false =>
    simp only [cond_false]
    by_cases e : hv t.heap b = hv h b
    · exact e.symm
    · have := hp.heap b e
      rw [show inM t.wr b ↔ Nat.testBit t.wr b = true from Iff.rfl, hw] at this
      cases this
theorem chain_at {j n nN : Nat} {fr frN : Fr} {h hN : Hp} {L : List Rc} (hc : Chain P W0 ops j fr h n L frN hN nN) : ∀ (k : Nat) (r : Rc), L[k]? = some r → ops[j + k]? = some r.o ∧ (∀ x ∈ r.o.op.operands, constOk x = true) ∧ StepV P W0 ops (j + k) r.o r.fr ⟨r.h, r.n, 0, 0⟩ r.v r.t := by
  induction hc with
  | nil => intro k r h; simp at h
  | cons hoi hcs hst rest ih =>
    intro k r hk
    cases k with
    | zero => simp at hk; subst hk; exact ⟨hoi, hcs, hst⟩
    | succ k => have := ih k r (by simpa using hk); rwa [Nat.add_assoc, Nat.add_comm 1 k] at this
theorem chain_next {j n nN : Nat} {fr frN : Fr} {h hN : Hp} {L : List Rc} (hc : Chain P W0 ops j fr h n L frN hN nN) : n ≤ nN ∧ (∀ (k : Nat) (r : Rc), L[k]? = some r → n ≤ r.n ∧ r.n ≤ r.t.next ∧ r.t.next ≤ nN) ∧
    ∀ (k k' : Nat) (r r' : Rc), k < k' → L[k]? = some r → L[k']? = some r' → r.t.next ≤ r'.n := by
  induction hc with
  | nil => exact ⟨Nat.le_refl _, fun k r h => by simp at h, fun k k' r r' _ h => by simp at h⟩
  | cons hoi hcs hst rest ih =>
    obtain ⟨h1, h2, h3⟩ := ih
    have hn := hst.1.next
    simp only at hn
    refine ⟨by omega, fun k r hk => ?_, fun k k' r r' hlt hk hk' => ?_⟩
    · cases k with
      | zero => simp at hk; subst hk; exact ⟨Nat.le_refl _, hn, h1⟩
      | succ k => have := h2 k r (by simpa using hk); omega
    · cases k' with
      | zero => omega
      | succ k' =>
        cases k with
        | zero => simp at hk; subst hk; have := h2 k' r' (by simpa using hk'); exact this.1
        | succ k => exact h3 k k' r r' (by omega) (by simpa using hk) (by simpa using hk')
theorem lt_shift (j k : Nat) : (fun i => decide (i < j + 1 + k)) = fun i => decide (i < j + (k + 1)) := by funext i; congr 1; simp; omega
theorem chain_F {j n nN : Nat} {fr frN : Fr} {h hN : Hp} {L : List Rc} (hc : Chain P W0 ops j fr h n L frN hN nN) : FS (fun _ => true) j L fr = frN ∧
    ∀ (k : Nat) (r : Rc), L[k]? = some r → r.fr = FS (fun i => decide (i < j + k)) j L fr ∧ putD r.o.dst r.v r.fr = FS (fun i => decide (i < j + k + 1)) j L fr := by
  induction hc with
  | nil => exact ⟨rfl, fun k r h => by simp at h⟩
  | cons hoi hcs hst rest ih =>
    rename_i j fr frN h hN n nN o v t bm L
    obtain ⟨h1, h2⟩ := ih
    refine ⟨h1, fun k r hk => ?_⟩
    cases k with
    | zero =>
      simp at hk
      subst hk
      refine ⟨(FS_none _ j fr fun i hi => by simp; omega).symm, ?_⟩
      show _ = FS _ (j + 1) L (bif decide (j < j + 0 + 1) then putD o.dst v fr else fr)
      rw [show decide (j < j + 0 + 1) = true by simp]
      exact (FS_none L (j + 1) _ fun i hi => by simp; omega).symm
    | succ k =>
      obtain ⟨h3, h4⟩ := h2 k r (by simpa using hk)
      have e1 : ∀ m, FS (fun i => decide (i < j + (k + 1) + m)) j (⟨o, fr, h, n, v, t, bm⟩ :: L) fr = FS (fun i => decide (i < j + 1 + k + m)) (j + 1) L (putD o.dst v fr) := fun m => by
        show FS _ (j + 1) L (bif decide (j < j + (k + 1) + m) then putD o.dst v fr else fr) = _
        rw [show decide (j < j + (k + 1) + m) = true by simp; omega, show j + (k + 1) + m = j + 1 + k + m by omega]
        rfl
      exact ⟨by rw [h3]; exact (e1 0).symm, by rw [h4]; exact (e1 1).symm⟩
theorem chain_H {j n nN : Nat} {fr frN : Fr} {h hN : Hp} {L : List Rc} (hc : Chain P W0 ops j fr h n L frN hN nN) : HS (fun _ => true) j L (hv h) = hv hN ∧
    ∀ (k : Nat) (r : Rc), L[k]? = some r → hv r.h = HS (fun i => decide (i < j + k)) j L (hv h) ∧ hv r.t.heap = HS (fun i => decide (i < j + k + 1)) j L (hv h) := by
  induction hc with
  | nil => exact ⟨rfl, fun k r h => by simp at h⟩
  | cons hoi hcs hst rest ih =>
    rename_i j fr frN h hN n nN o v t bm L
    have hstep := heap_step hst.1
    obtain ⟨h1, h2⟩ := ih
    refine ⟨?_, fun k r hk => ?_⟩
    · show HS _ (j + 1) L (bif true then (fun b => bif Nat.testBit t.wr b then hv t.heap b else hv h b) else hv h) = _
      rw [cond_true, hstep]
      exact h1
    cases k with
    | zero =>
      simp at hk
      subst hk
      refine ⟨(HS_none _ j _ fun i hi => by simp; omega).symm, ?_⟩
      show _ = HS _ (j + 1) L (bif decide (j < j + 0 + 1) then (fun b => bif Nat.testBit t.wr b then hv t.heap b else hv h b) else hv h)
      rw [show decide (j < j + 0 + 1) = true by simp, cond_true, hstep]
      exact (HS_none L (j + 1) _ fun i hi => by simp; omega).symm
    | succ k =>
      obtain ⟨h3, h4⟩ := h2 k r (by simpa using hk)
      have e1 : ∀ m, HS (fun i => decide (i < j + (k + 1) + m)) j (⟨o, fr, h, n, v, t, bm⟩ :: L) (hv h) = HS (fun i => decide (i < j + 1 + k + m)) (j + 1) L (hv t.heap) := fun m => by
        show HS _ (j + 1) L (bif decide (j < j + (k + 1) + m) then (fun b => bif Nat.testBit t.wr b then hv t.heap b else hv h b) else hv h) = _
        rw [show decide (j < j + (k + 1) + m) = true by simp; omega, show j + (k + 1) + m = j + 1 + k + m by omega, cond_true, hstep]
      exact ⟨by rw [h3]; exact (e1 0).symm, by rw [h4]; exact (e1 1).symm⟩
end
end Go.Proofs.YtoimffkejoeadaaGreatDoor.Vm
