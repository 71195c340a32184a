/- The machine of our own: regions that draw their order. -/
import Derived.Test.YtoimffkejoeadaaGreatDoorVm12
namespace Go.Proofs.YtoimffkejoeadaaGreatDoor.Vm
open Go Go.RowKit
set_option linter.unusedVariables false
set_option linter.unusedSimpArgs false

/-! ### Any order, by an invariant -/
section
variable {P : Program} {ops : Array Oper} {Q : Exit → Act → World → Prop} {md : Region.Mode}
def left (listed : Array Bool) : Nat := listed.toList.count false
theorem count_set : ∀ (l : List Bool) (i : Nat), l[i]? = some false → (l.set i true).count false + 1 = l.count false
  | [], i, h => by simp at h
  | b :: l, 0, h => by simp at h; subst h; simp
  | b :: l, i + 1, h => by
    have := count_set l i (by simpa using h)
    simp only [List.set_cons_succ, List.count_cons]
    omega
theorem ready_listed {listed : Array Bool} {i : Nat} (h : i ∈ Region.ready md ops listed) : listed[i]? = some false := by
  have := (mem_ready.1 h).1
  cases hx : listed[i]? with
  | none => simp [hx] at this
  | some b => simp [hx] at this; rw [this]
theorem wpAny_inv (Inv : Array Bool → Act → World → Prop) (hstep : ∀ listed a w i, Inv listed a w → i ∈ Region.ready md ops listed → wpOp P ops Q i (Inv (listed.setIfInBounds i true)) a w)
    (hdone : ∀ listed a w, Inv listed a w → Region.ready md ops listed = [] → Q .normal a w) : ∀ fuel listed a w, Inv listed a w → left listed ≤ fuel → wpAny P md ops Q fuel listed a w := by
  intro fuel
  induction fuel with
  | zero =>
    intro listed a w hI hl
    have hr : Region.ready md ops listed = [] := by
      cases hr : Region.ready md ops listed with
      | nil => rfl
      | cons i t =>
        have h1 := ready_listed (md := md) (ops := ops) (listed := listed) (i := i) (by rw [hr]; simp)
        have := count_set listed.toList i (by simpa using h1)
        unfold left at hl
        omega
    exact ⟨hr, hdone listed a w hI hr⟩
  | succ fuel ih =>
    intro listed a w hI hl
    refine ⟨hdone listed a w hI, fun i hi => wpOp_mono (fun a' w' h => ih _ a' w' h ?_) (hstep listed a w i hI hi)⟩
    have h1 := ready_listed hi
    have := count_set listed.toList i (by simpa using h1)
    unfold left at *
    rw [Array.toList_setIfInBounds]
    omega
end

/-! ### From an operation's blocks to all -/
section
variable {W0 : World} {M Mj : Nat → Prop} {ι ι' : Nat → Option Info} {h H h' H' : Nat → Option PB} {W W' : World} {n n' m m' : Nat}
theorem RH.sub (hR : RH W0 ι M H W) (hs : ∀ b, Mj b → M b ∧ h b = H b) : RH W0 ι Mj h W :=
  ⟨hR.below, fun b pb hM hl => hR.blk b pb (hs b hM).1 (by rw [← (hs b hM).2]; exact hl),
    fun b b' i i' hM hM' hl hl' => hR.inj b b' i i' (hs b hM).1 (hs b' hM').1 (by rw [← (hs b hM).2]; exact hl) (by rw [← (hs b' hM').2]; exact hl')⟩
theorem Post.widen (p : Post W0 M ι h W n ι' h' W' n') (h1 : m ≤ n) (h2 : n' ≤ m') : Post W0 M ι h W m ι' h' W' m' :=
  ⟨p.rh, p.ext, fun b e e' => by have := p.new b e e'; omega, p.size, p.keep, p.own⟩
theorem Post.comp {ι2 : Nat → Option Info} {h2 : Nat → Option PB} {W2 : World} (p : Post W0 M ι h W n ι' h' W' n') (q : Post W0 M ι' h' W' n ι2 h2 W2 n') : Post W0 M ι h W n ι2 h2 W2 n' where
  rh := q.rh
  ext b i e := q.ext b i (p.ext b i e)
  new b e e' := by
    cases e1 : ι' b with
    | none => exact q.new b e1 e'
    | some i => exact p.new b e (by simp [e1])
  size := Nat.le_trans p.size q.size
  keep g hg hn := by
    rw [q.keep g (Nat.lt_of_lt_of_le hg p.size) (fun b i hm hl he hgi => ?_), p.keep g hg hn]
    rcases p.own b i hm hl he with ⟨b0, i0, hm0, hl0, he0, hg0⟩ | hge
    · exact hn b0 i0 hm0 hl0 he0 (hg0.trans hgi)
    · omega
  own b i hm hl he := by
    rcases q.own b i hm hl he with ⟨b0, i0, hm0, hl0, he0, hg0⟩ | hge
    · rcases p.own b0 i0 hm0 hl0 he0 with ⟨b1, i1, hm1, hl1, he1, hg1⟩ | hge
      · exact .inl ⟨b1, i1, hm1, hl1, he1, hg1.trans hg0⟩
      · exact .inr (by omega)
    · exact .inr (Nat.le_trans p.size hge)
theorem RH.lt (hR : RH W0 ι M H W) {b : Nat} {i : Info} (hM : M b) (hl : H b ≠ none) (hi : ι b = some i) : i.g < W.heap.size := by
  cases hlx : H b with
  | none => exact absurd hlx hl
  | some pb =>
    obtain ⟨i', rc, fr, hi', hg, _⟩ := hR.blk b pb hM hlx
    rw [hi] at hi'
    injection hi' with e
    subst e
    exact (Array.getElem?_eq_some_iff.1 hg).1
theorem Post.lift (p : Post W0 Mj ι h W n ι' h' W' n') (hR : RH W0 ι M H W) (hs : ∀ b, Mj b → M b ∧ h b = H b) (hin : ∀ b, Mj b → H' b = h' b) (hout : ∀ b, ¬ Mj b → H' b = H b) : Post W0 M ι H W n ι' H' W' n' := by
  have old : ∀ b i, ¬ Mj b → M b → H' b ≠ none → ι' b = some i → H b ≠ none ∧ ι b = some i := fun b i hj hM hl hi => by
    rw [hout b hj] at hl
    refine ⟨hl, ?_⟩
    cases hlx : H b with
    | none => exact absurd hlx hl
    | some pb =>
      obtain ⟨i', rc, fr, hi', _⟩ := hR.blk b pb hM hlx
      rw [p.ext b i' hi'] at hi
      rw [← hi]; exact hi'
  have apart : ∀ b, ¬ Mj b → M b → H b ≠ none → ∀ i, ι b = some i → ∀ b0 i0, Mj b0 → h b0 ≠ none → ι b0 = some i0 → i0.g ≠ i.g := fun b hj hM hl i hi b0 i0 hM0 hl0 hi0 he => by
    have := hR.inj b0 b i0 i (hs b0 hM0).1 hM (by rw [← (hs b0 hM0).2]; exact hl0) hl hi0 hi he
    subst this
    exact hj hM0
  have cross : ∀ b b' i i', Mj b → ¬ Mj b' → M b' → H' b ≠ none → H' b' ≠ none → ι' b = some i → ι' b' = some i' → i.g ≠ i'.g := fun b b' i i' hj hj' hM' hl hl' hi hi' he => by
    obtain ⟨h1, h2⟩ := old b' i' hj' hM' hl' hi'
    rw [hin b hj] at hl
    rcases p.own b i hj hl hi with ⟨b0, i0, hM0, hl0, hi0, hg0⟩ | hge
    · exact apart b' hj' hM' h1 i' h2 b0 i0 hM0 hl0 hi0 (hg0.trans he)
    · have := hR.lt hM' h1 h2
      omega
  refine ⟨⟨p.rh.below, fun b pb hM hl => ?_, fun b b' i i' hM hM' hl hl' hi hi' he => ?_⟩, p.ext, p.new, p.size, fun g hg hn => p.keep g hg fun b i hj hl hi => hn b i (hs b hj).1 (by rw [← (hs b hj).2]; exact hl) hi, fun b i hM hl hi => ?_⟩
  · by_cases hj : Mj b
    · rw [hin b hj] at hl
      exact p.rh.blk b pb hj hl
    · rw [hout b hj] at hl
      obtain ⟨i, rc, fr, hi, hg, h1, h2, h3, h4, h5, h6, h7⟩ := hR.blk b pb hM hl
      refine ⟨i, rc, fr, p.ext b i hi, ?_, h1, h2, h3, h4, h5, h6, fun j u hu => ?_⟩
      · rw [p.keep i.g (Array.getElem?_eq_some_iff.1 hg).1 fun b0 i0 hM0 hl0 hi0 => apart b hj hM (by rw [hl]; simp) i hi b0 i0 hM0 hl0 hi0]
        exact hg
      · obtain ⟨v, hv, hr⟩ := h7 j u hu
        exact ⟨v, hv, hr.mono p.ext⟩
  · by_cases hj : Mj b
    · by_cases hj' : Mj b'
      · exact p.rh.inj b b' i i' hj hj' (by rw [← hin b hj]; exact hl) (by rw [← hin b' hj']; exact hl') hi hi' he
      · exact absurd he (cross b b' i i' hj hj' hM' hl hl' hi hi')
    · by_cases hj' : Mj b'
      · exact absurd he.symm (cross b' b i' i hj' hj hM hl' hl hi' hi)
      · obtain ⟨h1, h2⟩ := old b i hj hM hl hi
        obtain ⟨h3, h4⟩ := old b' i' hj' hM' hl' hi'
        exact hR.inj b b' i i' hM hM' h1 h3 h2 h4 he
  · by_cases hj : Mj b
    · rcases p.own b i hj (by rw [← hin b hj]; exact hl) hi with ⟨b0, i0, hM0, hl0, hi0, hg0⟩ | hge
      · exact .inl ⟨b0, i0, (hs b0 hM0).1, by rw [← (hs b0 hM0).2]; exact hl0, hi0, hg0⟩
      · exact .inr hge
    · obtain ⟨h1, h2⟩ := old b i hj hM hl hi
      exact .inl ⟨b, i, hM, h1, h2, rfl⟩
end
end Go.Proofs.YtoimffkejoeadaaGreatDoor.Vm
