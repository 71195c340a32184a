/- The machine of our own: what it answers, the real machine answers. -/
import Derived.Test.YtoimffkejoeadaaGreatDoorVm18
namespace Go.Proofs.YtoimffkejoeadaaGreatDoor.Vm
open Go Go.RowKit
set_option linter.unusedVariables false
set_option linter.unusedSectionVars false
set_option linter.constructorNameAsVariable false
set_option linter.unusedSimpArgs false

/-- A loop, by a number that falls from round to round. -/
theorem wp_loop_fuel {P : Program} {Q : Exit → Act → World → Prop} {c : Code} {a : Act} {w : World} {n : Nat} (J : Nat → Act → World → Prop) (h₀ : J n a w)
    (round : ∀ m a w, J m a w → c.wp P (Exit.then (fun a' w' => ∃ m', m' < m ∧ J m' a' w') Q) a w) : (Code.loop c).wp P Q a w := by
  intro b k cs
  have key : ∀ n a w, J n a w → ∃ e a' w', Q e a' w' ∧ Arrives P (lone (b.at a (.code c :: .inLoop c :: k)) cs w) b k cs e a' w' := by
    intro n
    induction n using Nat.strongRecOn with
    | _ n ih =>
      intro a w hI
      obtain ⟨e, a₁, w₁, hq, harr⟩ := round n a w hI b (.inLoop c :: k) cs
      cases e with
      | normal =>
        obtain ⟨m, hlt, hI₁⟩ := hq
        obtain ⟨e₂, a₂, w₂, hq₂, harr₂⟩ := ih m hlt a₁ w₁ hI₁
        exact ⟨e₂, a₂, w₂, hq₂, .of_steps (Steps.trans harr (.one step_inLoop)) harr₂⟩
      | exit id => exact ⟨_, a₁, w₁, hq, .pass (x := .inLoop c) rfl (fun _ _ => .inl (by simp)) harr⟩
      | goto l => exact ⟨_, a₁, w₁, hq, .pass (x := .inLoop c) rfl (fun _ _ => .inl (by simp)) harr⟩
      | ret => exact ⟨_, a₁, w₁, hq, .pass (x := .inLoop c) rfl (fun _ _ => .inl (by simp)) harr⟩
      | panic ch => exact ⟨_, a₁, w₁, hq, .pass (x := .inLoop c) rfl (fun _ _ => .inl (by simp)) harr⟩
      | outgrown => exact ⟨_, a₁, w₁, hq, .pass (x := .inLoop c) rfl (fun _ _ => .inl (by simp)) harr⟩
  obtain ⟨e, a', w', hq, harr⟩ := key _ a w h₀
  exact ⟨e, a', w', hq, .of_steps (.one step_loop) harr⟩

section
variable {P : Program} {W0 : World} {E : Addr → Option Value} {mt : List Meth} {orc : FuncId → List Value → Option Value}

/-- What is known of calls ahead. -/
def OrcOk (P : Program) (W0 : World) (orc : FuncId → List Value → Option Value) : Prop := ∀ f args v, orc f args = some v → (∀ u ∈ args, plain u = true) ∧ plain v = true ∧ ∀ W, Below W0.heap.size W0 W →
  Calls P f ⟨args⟩ W fun e W' => e = .returned v ∧ Below W.heap.size W W'

def ExOk (P : Program) (W0 : World) (nt : Nat) (c : Code) (fr : Fr) (s : PS) : XR → Prop
  | .no => True
  | .normal fr1 s1 => ExecR P W0 nt c fr s .normal fr1 s1
  | .exit id fr1 s1 => ExecR P W0 nt c fr s (.exit id) fr1 s1
  | .ret fr1 s1 => ExecR P W0 nt c fr s .ret fr1 s1

theorem ExecR.mono {nt : Nat} {c : Code} {fr fr1 : Fr} {s s1 : PS} {e : Exit} (h : ExecR P W0 nt c fr s e fr1 s1) : ExecR P W0 nt c fr s e fr1 s1 := h

theorem plain_args {ι : Nat → Option Info} {l r : List Value} (h : LR ι l r) (hp : ∀ u ∈ l, plain u = true) : r = l := by
  apply List.ext_getElem?
  intro i
  cases a : l[i]? with
  | none =>
    have h2 : r.length ≤ i := h.1 ▸ List.getElem?_eq_none_iff.1 a
    exact List.getElem?_eq_none_iff.2 h2
  | some u =>
    obtain ⟨v, hv, hr⟩ := h.at a
    rw [hv, VR.plain_eq (hp u (List.mem_of_getElem? a)) hr]

theorem Post.still {M : Nat → Prop} {ι : Nat → Option Info} {h : Nat → Option PB} {W W' : World} (hR : RH W0 ι M h W) (hb : Below W.heap.size W W') (n n' : Nat) : Post W0 M ι h W n ι h W' n' := by
  refine ⟨⟨hR.below.trans (hb.mono hR.below.size), fun b pb hM hl => ?_, hR.inj⟩, fun _ _ e => e, fun b e e' => absurd e e', hb.size, fun g hg _ => hb.block g hg, fun b i hm hl he => .inl ⟨b, i, hm, hl, he, rfl⟩⟩
  obtain ⟨i, rc, fr, hi, hg, q⟩ := hR.blk b pb hM hl
  exact ⟨i, rc, fr, hi, by rw [hb.block i.g (Array.getElem?_eq_some_iff.1 hg).1]; exact hg, q⟩

variable (hE : ∀ a v, E a = some v → W0.cell? a = some v ∧ atom v = true) (hmt : ∀ m ∈ mt, MethOk P m) (hO : OrcOk P W0 orc) (hfol : P.follows .mixedOrders = true)

theorem ExecR.trans {nt : Nat} {a b : Code} {fr fr1 fr2 : Fr} {s s1 s2 : PS} {e : Exit} (h : ExecR P W0 nt a fr s .normal fr1 s1) (k : ExecR P W0 nt b fr1 s1 e fr2 s2) : ExecR P W0 nt (.seq a b) fr s e fr2 s2 := by
  refine ⟨h.1.trans k.1, fun M hM ι ac W hR hf hF Q hQ => wp_seq ?_⟩
  refine h.2 M (hM.back k.1) ι ac W hR hf (hF.left k.1.next) _ fun ι' a' W' hf' hd hp => ?_
  exact k.2 M hM ι' a' W' hp.rh hf' (hF.next hp h.1.next) Q fun ι'' a'' W'' hf'' hd' hp' => hQ ι'' a'' W'' hf'' (hd'.trans hd) (hp.trans hp' h.1.next k.1.next)

theorem seq_ok {nt : Nat} {a b : Code} {fr : Fr} {s : PS} {x : XR} {f : Fr → PS → XR} (hx : ExOk P W0 nt a fr s x) (hf : ∀ fr1 s1, ExOk P W0 nt b fr1 s1 (f fr1 s1)) :
    ExOk P W0 nt (.seq a b) fr s (XR.rec (motive := fun _ => XR) .no f (fun id fr s => .exit id fr s) (fun fr s => .ret fr s) x) := by
  cases x with
  | no => trivial
  | normal fr1 s1 =>
    have h2 := hf fr1 s1
    show ExOk P W0 nt (.seq a b) fr s (f fr1 s1)
    cases hfx : f fr1 s1 with
    | no => trivial
    | normal fr2 s2 => rw [hfx] at h2; exact ExecR.trans hx h2
    | exit id fr2 s2 => rw [hfx] at h2; exact ExecR.trans hx h2
    | ret fr2 s2 => rw [hfx] at h2; exact ExecR.trans hx h2
  | exit id fr1 s1 => exact ⟨hx.1, fun M hM ι ac W hR hf hF Q hQ => wp_seq (hx.2 M hM ι ac W hR hf hF _ hQ)⟩
  | ret fr1 s1 => exact ⟨hx.1, fun M hM ι ac W hR hf hF Q hQ => wp_seq (hx.2 M hM ι ac W hR hf hF _ hQ)⟩

theorem block_ok {nt id : Nat} {c : Code} {fr : Fr} {s : PS} {x : XR} (hx : ExOk P W0 nt c fr s x) :
    ExOk P W0 nt (.block id c) fr s (XR.rec (motive := fun _ => XR) .no (fun fr s => .normal fr s) (fun k fr s => bif Nat.beq k id then .normal fr s else .exit k fr s) (fun fr s => .ret fr s) x) := by
  cases x with
  | no => trivial
  | normal fr1 s1 => exact ⟨hx.1, fun M hM ι ac W hR hf hF Q hQ => wp_block (hx.2 M hM ι ac W hR hf hF _ hQ)⟩
  | ret fr1 s1 => exact ⟨hx.1, fun M hM ι ac W hR hf hF Q hQ => wp_block (hx.2 M hM ι ac W hR hf hF _ hQ)⟩
  | exit k fr1 s1 =>
    show ExOk P W0 nt (.block id c) fr s (bif Nat.beq k id then .normal fr1 s1 else .exit k fr1 s1)
    cases hk : Nat.beq k id with
    | true =>
      have hk := Nat.eq_of_beq_eq_true hk
      exact ⟨hx.1, fun M hM ι ac W hR hf hF Q hQ => wp_block (hx.2 M hM ι ac W hR hf hF _ fun ι' a' W' h1 h2 h3 => by
        show (if k = id then _ else _)
        rw [if_pos hk]; exact hQ ι' a' W' h1 h2 h3)⟩
    | false =>
      have hk := Nat.ne_of_beq_eq_false hk
      exact ⟨hx.1, fun M hM ι ac W hR hf hF Q hQ => wp_block (hx.2 M hM ι ac W hR hf hF _ fun ι' a' W' h1 h2 h3 => by
        show (if k = id then _ else _)
        rw [if_neg hk]; exact hQ ι' a' W' h1 h2 h3)⟩

theorem cond_ok {nt : Nat} {c : Operand} {a b : Code} {fr : Fr} {s : PS} {f g : XR} (hc : slotOk nt c = true) (hcc : constOk c = true) (hf : ExOk P W0 nt a fr s f) (hg : ExOk P W0 nt b fr s g) :
    ExOk P W0 nt (.cond c a b) fr s (Option.rec (motive := fun _ => XR) .no (fun t => Bool.rec (motive := fun _ => XR) g f t) (vB (opd c fr))) := by
  cases hv : vB (opd c fr) with
  | none => trivial
  | some t =>
    have hv := vB_eq hv
    have lift : ∀ {e : Exit} {fr1 : Fr} {s1 : PS}, ExecR P W0 nt (if t then a else b) fr s e fr1 s1 → ExecR P W0 nt (.cond c a b) fr s e fr1 s1 := fun {e fr1 s1} hx => by
      refine ⟨hx.1, fun M hM ι ac W hR hf hF Q hQ => ?_⟩
      have hop := hf.opd hc hcc
      rw [hv] at hop
      exact wp_cond hop.bool (hx.2 M hM ι ac W hR hf hF Q hQ)
    have both : ∀ x, ExOk P W0 nt (if t then a else b) fr s x → ExOk P W0 nt (.cond c a b) fr s x := fun x hx => by
      cases x with
      | no => trivial
      | normal _ _ => exact lift hx
      | exit _ _ _ => exact lift hx
      | ret _ _ => exact lift hx
    cases t with
    | true => exact both f hf
    | false => exact both g hg

include hE hmt hO hfol
theorem body_ok {ih : Code → Fr → PS → XR} (hih : ∀ nt c fr s, slotsOk nt c = true → ExOk P W0 nt c fr s (ih c fr s)) : CallOk P W0 (callBy P E orc ih) := by
  intro g args s v s1 h
  unfold callBy at h
  cases ho : orc g args with
  | some u =>
    rw [ho] at h
    simp only at h
    injection h with h1 h2
    subst h1
    subst h2
    obtain ⟨hp1, hp2, hcalls⟩ := hO g args u ho
    refine ⟨PL.refl s, fun M hM ι rargs W hR hl hF => ?_⟩
    have := plain_args hl hp1
    subst this
    refine Calls.mono (hcalls W hR.below) fun e W' he => ⟨u, he.1, ι, .of_plain hp2, Post.still hR he.2 _ _⟩
  | none =>
    rw [ho] at h
    simp only at h
    unfold bodyOf at h
    cases hfn : P.funcs[g]? with
    | none => rw [hfn] at h; cases h
    | some fn =>
      rw [hfn] at h
      cases hb : fn.body with
      | none => simp only [hb] at h; cases h
      | some c =>
        simp only [hb] at h
        cases hch : (Nat.ble fn.ntmps 256 && slotsOk fn.ntmps c && fn.results.toList.all (resultOk fn.ntmps)) with
        | false => rw [hch] at h; cases h
        | true =>
          rw [hch] at h
          simp only [cond_true] at h
          simp only [Bool.and_eq_true] at hch
          obtain ⟨⟨hnt, hsl⟩, hres⟩ := hch
          have hnt := Nat.le_of_ble_eq_true hnt
          have hres' : ∀ r ∈ fn.results.toList, resultOk fn.ntmps r = true := List.all_eq_true.1 hres
          cases hna : Nat.ble (len args) fn.ntmps with
          | false => rw [hna] at h; cases h
          | true =>
            rw [hna] at h
            simp only [cond_true, frameOf_eq] at h
            have hna := Nat.le_of_ble_eq_true hna
            rw [len_eq] at hna
            have hx := hih fn.ntmps c (fillF args 0 fr0) s hsl
            have fin : ∀ {e : Exit} {fr1 : Fr} {s2 : PS}, (e = .normal ∨ e = .ret) → ExecR P W0 fn.ntmps c (fillF args 0 fr0) s e fr1 s2 → results1 P E fn.results.toList fr1 s2 = .ok v s1 → PL s s1 ∧ ∀ M, MaskIn s1 M → ∀ ι rargs W, RH W0 ι M (hv s.heap) W → LR ι args rargs → Fresh ι s.next s1.next →
                Calls P g ⟨rargs⟩ W fun e W' => ∃ r, e = .returned r ∧ Good W0 M ι s W v s1 r W' := by
              intro e fr1 s2 he hx hr
              obtain ⟨r1, r2, r3, r4⟩ := results_ok (W0 := W0) hE hres' hr
              refine ⟨hx.1.trans r1, fun M hM ι rargs W hR hl hF => calls_of_wp hfn hb ?_⟩
              refine hx.2 M (hM.back r1) ι _ W hR (first_frame hl hna hnt) (by rw [← r3]; exact hF) _ fun ι' a' W' hf hd hp => ?_
              have hR' : RH W0 ι' M (hv s2.heap) W' := hp.rh
              obtain ⟨x, hx1, hx2⟩ := r4 M hM ι' a' W' hR' hf
              have hgood : Good W0 M ι s W v s1 x W' := ⟨ι', hx2, by rw [r2, r3]; exact hp⟩
              rcases he with rfl | rfl
              · exact ⟨hd, x, hx1, x, rfl, hgood⟩
              · exact ⟨hd, x, hx1, x, rfl, hgood⟩
            cases hxr : ih c (fillF args 0 fr0) s with
            | no => rw [hxr] at h; cases h
            | exit _ _ _ => rw [hxr] at h; cases h
            | normal fr1 s2 => rw [hxr] at h hx; exact fin (.inl rfl) hx h
            | ret fr1 s2 => rw [hxr] at h hx; exact fin (.inr rfl) hx h

omit hE hmt hO hfol in
theorem loop_not_normal {b : Code} : ∀ n fr s fr1 s1, exec P E mt orc n (.loop b) fr s ≠ .normal fr1 s1
  | 0, fr, s, fr1, s1, h => by
    have h' : XR.no = .normal fr1 s1 := h
    cases h'
  | n + 1, fr, s, fr1, s1, h => by
    have h' : (XR.rec (motive := fun _ => XR) .no (exec P E mt orc n (.loop b)) (fun id fr s => .exit id fr s) (fun fr s => .ret fr s) (exec P E mt orc n b fr s) : XR) = .normal fr1 s1 := h
    cases hx : exec P E mt orc n b fr s with
    | no => rw [hx] at h'; cases h'
    | normal fr2 s2 => rw [hx] at h'; exact loop_not_normal n fr2 s2 fr1 s1 h'
    | exit _ _ _ => rw [hx] at h'; cases h'
    | ret _ _ => rw [hx] at h'; cases h'

omit hE hmt hO hfol in
theorem loop_ok {nt : Nat} {b : Code} {n : Nat} (hb : ∀ m, m < n → ∀ fr s, ExOk P W0 nt b fr s (exec P E mt orc m b fr s)) (hl : ∀ m, m < n → ∀ fr s, ExOk P W0 nt (.loop b) fr s (exec P E mt orc m (.loop b) fr s)) (fr0 : Fr) (s0 : PS) :
    ExOk P W0 nt (.loop b) fr0 s0 (exec P E mt orc n (.loop b) fr0 s0) := by
  cases n with
  | zero => trivial
  | succ n =>
  have main : ∀ (e : Exit) (X : XR) (frN : Fr) (sN : PS), (∀ c fr s, ExOk P W0 nt c fr s X = ExecR P W0 nt c fr s e frN sN) → X ≠ .no → (e ≠ .normal) → (∀ fr s, X ≠ .normal fr s) → (∀ fr s, X = .exit (match e with | .exit id => id | _ => 0) fr s → e = .exit (match e with | .exit id => id | _ => 0)) →
      exec P E mt orc (n + 1) (.loop b) fr0 s0 = X → ExecR P W0 nt (.loop b) fr0 s0 e frN sN := by
    intro e X frN sN hX hno hen hnn _ hrun
    have unroll : ∀ m fr s, exec P E mt orc (m + 1) (.loop b) fr s = (XR.rec (motive := fun _ => XR) .no (exec P E mt orc m (.loop b)) (fun id fr s => .exit id fr s) (fun fr s => .ret fr s) (exec P E mt orc m b fr s) : XR) := fun _ _ _ => rfl
    -- what the run keeps of our own memory
    have pl : ∀ m, m ≤ n + 1 → ∀ fr s, exec P E mt orc m (.loop b) fr s = X → PL s sN := by
      intro m
      induction m with
      | zero => intro _ fr s h; exact absurd h.symm hno
      | succ m ih =>
        intro hm fr s h
        rw [unroll] at h
        have h2 := hb m (by omega) fr s
        cases hx : exec P E mt orc m b fr s with
        | no => rw [hx] at h; exact absurd h.symm hno
        | normal fr2 s2 => rw [hx] at h h2; exact h2.1.trans (ih (by omega) fr2 s2 h)
        | exit id fr2 s2 =>
          rw [hx] at h h2
          have h' : XR.exit id fr2 s2 = X := h
          have h3 : ExOk P W0 nt b fr s X := by rw [← h']; exact h2
          rw [hX] at h3
          exact h3.1
        | ret fr2 s2 =>
          rw [hx] at h h2
          have h' : XR.ret fr2 s2 = X := h
          have h3 : ExOk P W0 nt b fr s X := by rw [← h']; exact h2
          rw [hX] at h3
          exact h3.1
    refine ⟨pl (n + 1) (Nat.le_refl _) fr0 s0 hrun, fun M hM ι a W hR hf hF Q hQ => ?_⟩
    refine wp_loop_fuel (n := n + 1) (fun m a' W' => m ≤ n + 1 ∧ ∃ ι' fr s, exec P E mt orc m (.loop b) fr s = X ∧ FRel ι' nt fr a' ∧ a'.defers = a.defers ∧ Fresh ι' s.next sN.next ∧ s0.next ≤ s.next ∧ Post W0 M ι (hv s0.heap) W s0.next ι' (hv s.heap) W' s.next)
      ⟨Nat.le_refl _, ι, fr0, s0, hrun, hf, rfl, hF, Nat.le_refl _, Post.refl hR _ _⟩ fun m a' W' hJ => ?_
    obtain ⟨hm, ι', fr, s, h, hf', hd', hF', hn', hp'⟩ := hJ
    cases m with
    | zero => exact absurd h.symm hno
    | succ m =>
      rw [unroll] at h
      have h2 := hb m (by omega) fr s
      have leave : ∀ Y, Y = X → ExOk P W0 nt b fr s Y → b.wp P (Exit.then (fun a'' W'' => ∃ m', m' < m + 1 ∧ m' ≤ n + 1 ∧ ∃ ι' fr s, exec P E mt orc m' (.loop b) fr s = X ∧ FRel ι' nt fr a'' ∧ a''.defers = a.defers ∧ Fresh ι' s.next sN.next ∧ s0.next ≤ s.next ∧ Post W0 M ι (hv s0.heap) W s0.next ι' (hv s.heap) W'' s.next) Q) a' W' := by
        intro Y hY hok
        rw [hY, hX] at hok
        refine hok.2 M hM ι' a' W' hp'.rh hf' hF' _ fun ι'' a'' W'' k1 k2 k3 => ?_
        have hq := hQ ι'' a'' W'' k1 (k2.trans hd') (hp'.trans k3 hn' hok.1.next)
        cases e <;> first | exact absurd rfl hen | exact hq
      cases hx : exec P E mt orc m b fr s with
      | no => rw [hx] at h; exact absurd h.symm hno
      | normal fr2 s2 =>
        rw [hx] at h h2
        have hpl2 := pl m (by omega) fr2 s2 h
        refine h2.2 M (hM.back hpl2) ι' a' W' hp'.rh hf' (hF'.left hpl2.next) _ fun ι'' a'' W'' k1 k2 k3 => ?_
        exact ⟨m, by omega, by omega, ι'', fr2, s2, h, k1, k2.trans hd', hF'.next k3 h2.1.next, by have := h2.1.next; omega, hp'.trans k3 hn' h2.1.next⟩
      | exit id fr2 s2 => rw [hx] at h h2; exact leave _ h h2
      | ret fr2 s2 => rw [hx] at h h2; exact leave _ h h2
  cases hx : exec P E mt orc (n + 1) (.loop b) fr0 s0 with
  | no => trivial
  | normal fr1 s1 => exact absurd hx (loop_not_normal (n + 1) fr0 s0 fr1 s1)
  | exit id fr1 s1 => exact main (.exit id) _ fr1 s1 (fun _ _ _ => rfl) (by simp) (by simp) (by simp) (fun _ _ _ => rfl) hx
  | ret fr1 s1 => exact main .ret _ fr1 s1 (fun _ _ _ => rfl) (by simp) (by simp) (by simp) (fun _ _ h => by cases h) hx

theorem exec_ok : ∀ n nt c fr s, slotsOk nt c = true → ExOk P W0 nt c fr s (exec P E mt orc n c fr s) := by
  intro n
  induction n using Nat.strongRecOn with
  | _ n ih =>
    intro nt c fr s hs
    cases n with
    | zero => trivial
    | succ n =>
      have ihn := ih n (Nat.lt_succ_self n)
      have hC := body_ok hE hmt hO hfol (ih := exec P E mt orc n) ihn
      show ExOk P W0 nt c fr s (exec1 P E mt orc c (exec P E mt orc n) fr s)
      cases c with
      | skip => exact ⟨PL.refl s, fun M hM ι a W hR hf hF Q hQ => wp_skip (hQ ι a W hf rfl (Post.refl hR _ _))⟩
      | exit id => exact ⟨PL.refl s, fun M hM ι a W hR hf hF Q hQ => wp_exit (hQ ι a W hf rfl (Post.refl hR _ _))⟩
      | ret => exact ⟨PL.refl s, fun M hM ι a W hR hf hF Q hQ => wp_ret (hQ ι a W hf rfl (Post.refl hR _ _))⟩
      | seq a b =>
        have hs' : (slotsOk nt a && slotsOk nt b) = true := hs
        rw [Bool.and_eq_true] at hs'
        exact seq_ok (ihn nt a fr s hs'.1) fun fr1 s1 => ihn nt b fr1 s1 hs'.2
      | cond x a b =>
        have hs' : (slotOk nt x && constOk x && slotsOk nt a && slotsOk nt b) = true := hs
        simp only [Bool.and_eq_true] at hs'
        exact cond_ok hs'.1.1.1 hs'.1.1.2 (ihn nt a fr s hs'.1.2) (ihn nt b fr s hs'.2)
      | block id b => exact block_ok (ihn nt b fr s hs)
      | loop b => exact loop_ok (n := n + 1) (fun m hm fr s => ih m hm nt b fr s hs) (fun m hm fr s => ih m hm nt (.loop b) fr s hs) fr s
      | region id ops draw =>
        have hs' : ops.toList.all (operOk nt) = true := hs
        have hok := List.all_eq_true.1 hs'
        cases draw with
        | false =>
          show ExOk P W0 nt (.region id ops false) fr s (OR.rec (motive := fun _ => XR) .no (fun fr s => .normal fr s) (opsText P E mt ops ops.toList (callBy P E orc (exec P E mt orc n)) fr s))
          cases hx : opsText P E mt ops ops.toList (callBy P E orc (exec P E mt orc n)) fr s with
          | no => trivial
          | ok fr1 s1 =>
            obtain ⟨h1, h2⟩ := text_ok hE hmt hC hok ops.toList 0 fr s fr1 s1 (fun j o hj => by rw [Nat.zero_add]; simpa using hj) hx
            refine ⟨h1, fun M hM ι a W hR hf hF Q hQ => wp_region ?_⟩
            have := h2 M hM ι a W hR hf hF Q hQ
            rw [List.range_eq_range']
            simpa using this
        | true =>
          show ExOk P W0 nt (.region id ops true) fr s ((bif apartOk ops (aheads ops.toList []) then
            fun ih fr s => OR.rec (motive := fun _ => XR) .no (fun fr s => .normal fr s) (opsDraw P E mt ops (ops.toList.zip (aheads ops.toList [])) 0 [] (callBy P E orc ih) fr s)
            else fun _ _ _ => .no : (Code → Fr → PS → XR) → Fr → PS → XR) (exec P E mt orc n) fr s)
          cases hap : apartOk ops (aheads ops.toList []) with
          | false => trivial
          | true =>
            simp only [cond_true]
            cases hx : opsDraw P E mt ops (ops.toList.zip (aheads ops.toList [])) 0 [] (callBy P E orc (exec P E mt orc n)) fr s with
            | no => trivial
            | ok fr1 s1 => exact region_draw hE hmt hC hfol hok hap hx
      | _ => trivial
theorem run_ok (n : Nat) : CallOk P W0 (runCall P E mt orc n) := body_ok hE hmt hO hfol fun nt c fr s hs => exec_ok hE hmt hO hfol n nt c fr s hs

/-- A call on plain values (what they lead to lies in the world) that our machine runs to a plain answer. -/
theorem run_plain {n : Nat} {f : FuncId} {args : List Value} {v : Value} {s1 : PS} (ha : ∀ x ∈ args, plain x = true) (h : runCall P E mt orc n f args start = .ok v s1) (hpv : plain v = true) :
    Calls P f ⟨args⟩ W0 fun e W' => e = .returned v ∧ Below W0.heap.size W0 W' := by
  obtain ⟨_, h2⟩ := run_ok hE hmt hO hfol n f args start v s1 h
  have hR : RH W0 (fun _ => none) (fun _ => True) (hv start.heap) W0 := by
    have hnone : ∀ b, Vm.hv start.heap b = none := fun b => by
      have q : ∀ {α : Type} (d : D4) (x : α), q1 d (four x) = x := fun d x => by cases d <;> rfl
      show (bif Nat.blt b 4096 then getT b (four (four (four (four (four (four none)))))) else none) = none
      cases Nat.blt b 4096 with
      | true =>
        simp only [cond_true]
        rw [getT_def, q, q, q, q, q, q]
      | false => rfl
    exact ⟨Below.refl _ _, fun b pb _ h => (by rw [hnone] at h; cases h), fun b b' i i' _ _ _ _ h => (by cases h)⟩
  have hl : LR (fun _ => none) args args := ⟨rfl, fun i u w a b => by
    rw [a] at b
    injection b with b
    subst b
    exact .of_plain (ha u (List.mem_of_getElem? a))⟩
  have h3 := h2 (fun _ => True) (fun _ _ => trivial) (fun _ => none) args W0 hR hl (fun _ _ _ => rfl)
  refine Calls.mono h3 fun e W' he => ?_
  obtain ⟨r, rfl, ι', hvr, hp⟩ := he
  rw [VR.plain_eq hpv hvr]
  exact ⟨rfl, hp.rh.below⟩

/-- A closed call that our machine runs to a plain answer. -/
theorem run_closed {n : Nat} {f : FuncId} {v : Value} {s1 : PS} (h : runCall P E mt orc n f [] start = .ok v s1) (hpv : plain v = true) : Calls P f #[] W0 fun e W' => e = .returned v ∧ Below W0.heap.size W0 W' :=
  run_plain hE hmt hO hfol (fun x hx => by simp at hx) h hpv
end
end Go.Proofs.YtoimffkejoeadaaGreatDoor.Vm
