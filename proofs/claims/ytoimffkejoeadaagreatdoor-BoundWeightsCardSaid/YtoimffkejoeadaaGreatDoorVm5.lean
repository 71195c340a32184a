/- The machine of our own: what an operation answers, the real operation answers. Part 1. -/
import Derived.Test.YtoimffkejoeadaaGreatDoorVm4
namespace Go.Proofs.YtoimffkejoeadaaGreatDoor.Vm
open Go Go.RowKit
set_option linter.unusedVariables false
set_option linter.unusedSimpArgs false

/-- What a real operation comes to: a value, nothing, or a call that returns. -/
def Does (P : Program) (W : World) (m : Sem Next) (R : Value → World → Prop) : Prop :=
  match m.run P W with
  | .ok (.value r) W' => R r W'
  | .ok .skip W' => R undef W'
  | .ok (.enter f args) W' => Calls P f args W' fun e W'' => ∃ r, e = .returned r ∧ R r W''
  | _ => False

def Good (W0 : World) (M : Nat → Prop) (ι : Nat → Option Info) (s : PS) (W : World) (v : Value) (s1 : PS) (r : Value) (W' : World) : Prop :=
  ∃ ι', VR ι' v r ∧ Post W0 M ι (hv s.heap) W s.next ι' (hv s1.heap) W' s1.next

/-- An operation's answer is right. -/
def Ok (P : Program) (W0 : World) (o : Oper) (fr : Fr) (s : PS) (v : Value) (s1 : PS) : Prop :=
  PL s s1 ∧ ∀ M, MaskIn s1 M → ∀ ι ρ W, RH W0 ι M (hv s.heap) W → (∀ x ∈ o.op.operands, VR ι (opd x fr) (ρ x)) → Fresh ι s.next s1.next →
    Does P W (execOp ρ o) (Good W0 M ι s W v s1)

/-- A computation in steps: it refuses, or hands on what is right. -/
def Ans {γ : Type} (no : γ) (k : Value → PS → γ) (R : Value → PS → Prop) (x : γ) : Prop := x = no ∨ ∃ v s1, x = k v s1 ∧ R v s1
section
variable {γ : Type} {no : γ} {k : Value → PS → γ} {R : Value → PS → Prop}
theorem Ans.not : Ans no k R no := .inl rfl
theorem Ans.yes {v : Value} {s1 : PS} (h : R v s1) : Ans no k R (k v s1) := .inr ⟨v, s1, rfl, h⟩
theorem Ans.opt {α : Type} {x : Option α} {f : α → γ} (h : ∀ a, x = some a → Ans no k R (f a)) : Ans no k R (Option.rec (motive := fun _ => γ) no f x) := by
  cases x with
  | none => exact .not
  | some a => exact h a rfl
theorem Ans.onO {α : Type} {x : Option α} {f : α → γ} (h : ∀ a, x = some a → Ans no k R (f a)) : Ans no k R (onO no x f) := Ans.opt h
theorem Ans.cond {b : Bool} {x y : γ} (h : b = true → Ans no k R x) (h' : b = false → Ans no k R y) : Ans no k R (bif b then x else y) := by
  cases b with
  | true => exact h rfl
  | false => exact h' rfl
theorem Ans.cond' {b : Bool} {x : γ} (h : b = true → Ans no k R x) : Ans no k R (bif b then x else no) := Ans.cond h fun _ => .not
end

section
variable {P : Program} {W0 : World} {E : Addr → Option Value} {o : Oper} {fr : Fr} {s : PS}

theorem run_v {m : Sem Value} {W W' : World} {r : Value} (h : m.run P W = .ok r W') : (do pure (Next.value (← m)) : Sem Next).run P W = .ok (.value r) W' := by simp [h]
theorem run_u {m : Sem Unit} {W W' : World} (h : m.run P W = .ok () W') : (do m; pure Next.skip : Sem Next).run P W = .ok .skip W' := by simp [h]
theorem Does.value {W W' : World} {m : Sem Next} {R : Value → World → Prop} {r : Value} (h : m.run P W = .ok (.value r) W') (hR : R r W') : Does P W m R := by unfold Does; rw [h]; exact hR
theorem Does.skip {W W' : World} {m : Sem Next} {R : Value → World → Prop} (h : m.run P W = .ok .skip W') (hR : R undef W') : Does P W m R := by unfold Does; rw [h]; exact hR
theorem Does.enter {W W' : World} {m : Sem Next} {R : Value → World → Prop} {f : FuncId} {args : Array Value} (h : m.run P W = .ok (.enter f args) W')
    (hR : Calls P f args W' fun e W'' => ∃ r, e = .returned r ∧ R r W'') : Does P W m R := by unfold Does; rw [h]; exact hR

theorem Ok.still {v : Value} (H : ∀ ι ρ, (∀ x ∈ o.op.operands, VR ι (opd x fr) (ρ x)) → ∃ r, VR ι v r ∧ ∀ W, (execOp ρ o).run P W = .ok (.value r) W) : Ok P W0 o fr s v s :=
  ⟨PL.refl s, fun M hM ι ρ W hR hρ hF => by
    obtain ⟨r, hv, hr⟩ := H ι ρ hρ
    exact Does.value (hr W) ⟨ι, hv, Post.refl hR _ _⟩⟩

theorem calm_run {α : Type} {m : Sem α} {a : α} (h : calm P m = some a) (W : World) : m.run P W = .ok a W := by
  induction m with
  | pure x => simp only [calm] at h; injection h with h; subst h; rfl
  | program k ih => exact ih P h
  | mark m k ih => exact ih h
  | _ => simp [calm] at h

theorem quiet_ok {γ : Type} {no : γ} {k : Value → PS → γ} (hs : ∀ cs b, o.op ≠ .select cs b) {R : Value → PS → Prop} (hR : ∀ v, Ok P W0 o fr s v s → R v s) {x : γ} (hx : Ans no k R x) : Ans no k R (pQuiet x P o fr s k) := by
  unfold pQuiet
  cases hc : (o.op.operands.toList.all fun x => plain (opd x fr)) with
  | false => exact hx
  | true =>
    simp only [cond_true]
    split
    · rename_i v hv
      cases hp : plain v with
      | false => exact hx
      | true =>
        simp only [cond_true, fV_eq]
        refine Ans.yes (hR _ (Ok.still fun ι ρ hρ => ⟨v, .of_plain hp, fun W => ?_⟩))
        have e : execOp ρ o = execOp (fun x => opd x fr) o := execOp_congr o hs fun x hx => by
          have hpx : plain (opd x fr) = true := List.all_eq_true.1 hc x (by simpa using hx)
          exact VR.plain_eq hpx (hρ x hx)
        rw [e]
        exact calm_run hv W
    · exact hx
theorem quiet_ok' {γ : Type} {no : γ} {k : Value → PS → γ} (hs : ∀ cs b, o.op ≠ .select cs b) : Ans no k (Ok P W0 o fr s) (pQuiet no P o fr s k) := quiet_ok hs (fun _ h => h) .not

theorem move_ok {x : Operand} (ho : o.op = .move x ∨ o.op = .assign x) : Ok P W0 o fr s (opd x fr) s := Ok.still fun ι ρ hρ => by
  rcases ho with ho | ho
  · exact ⟨ρ x, hρ x (by simp [ho, Op.operands]), fun W => by simp [execOp, ho]⟩
  · exact ⟨ρ x, hρ x (by simp [ho, Op.operands]), fun W => by simp [execOp, ho]⟩
theorem vB_eq {v : Value} {b : Bool} (h : vB v = some b) : v = .bool b := by
  cases v <;> simp [vB] at h
  rw [h]
theorem vP_eq {v : Value} {a : Addr} (h : vP v = some a) : v = .pointer (some a) := by
  unfold vP at h
  split at h
  · injection h with h; rw [h]
  · cases h
theorem vN_eq {v : Value} {n : Nat} (h : vN v = some n) : ∃ kd, v = .int kd (.ofNat n) := by
  unfold vN at h
  split at h
  · rename_i kd m; injection h with h; subst h; exact ⟨kd, rfl⟩
  · cases h
theorem vN64_eq {v : Value} {n : Nat} (h : vN64 v = some n) : v = .int .i64 (.ofNat n) := by
  unfold vN64 at h
  split at h
  · injection h with h; rw [h]
  · cases h
theorem vI_eq {v : Value} {n : Int} (h : vI v = some n) : v = .int .i64 n := by
  unfold vI at h
  split at h
  · injection h with h; rw [h]
  · cases h
theorem vT_eq {v : Value} {l : List Value} (h : vT v = some l) : v = .tuple ⟨l⟩ := by
  unfold vT at h
  split at h
  · injection h with h; rw [h]
  · cases h
theorem vG_eq {v : Value} {l : Array Value} (h : vG v = some l) : v = .agg l := by
  unfold vG at h
  split at h
  · injection h with h; rw [h]
  · cases h
theorem vS_eq {v : Value} {a : Option Addr} {n c : Nat} (h : vS v = .sl a n c) : v = .slice a n c := by
  unfold vS at h
  split at h
  · injection h with h1 h2 h3; rw [h1, h2, h3]
  · cases h
theorem vF_eq {v w : Value} {t : TypeId} (h : vF v = .ifc t w) : v = .iface t w := by
  unfold vF at h
  split at h
  · injection h with h1 h2; rw [h1, h2]
  · cases h
theorem VR.bool {ι : Nat → Option Info} {b : Bool} {r : Value} (h : VR ι (.bool b) r) : r = .bool b := VR.atom_eq rfl h
theorem VR.int {ι : Nat → Option Info} {kd : IntKind} {n : Int} {r : Value} (h : VR ι (.int kd n) r) : r = .int kd n := VR.atom_eq rfl h

theorem pick_ok {γ : Type} {no : γ} {k : Value → PS → γ} {c a b : Operand} (ho : o.op = .pick c a b) :
    Ans no k (Ok P W0 o fr s) (Option.rec (motive := fun _ => γ) no (fun x => Bool.rec (motive := fun _ => γ) (k (opd b fr) s) (k (opd a fr) s) x) (vB (opd c fr))) := by
  refine Ans.opt fun x hx => ?_
  have hx := vB_eq hx
  have hops : ∀ y, y = c ∨ y = a ∨ y = b → y ∈ o.op.operands := fun y hy => by rcases hy with rfl | rfl | rfl <;> simp [ho, Op.operands]
  cases x with
  | false =>
    refine Ans.yes (Ok.still fun ι ρ hρ => ⟨ρ b, hρ b (hops b (by simp)), fun W => ?_⟩)
    have := hρ c (hops c (by simp)); rw [hx] at this
    simp [execOp, ho, this.bool, asBool]
  | true =>
    refine Ans.yes (Ok.still fun ι ρ hρ => ⟨ρ a, hρ a (hops a (by simp)), fun W => ?_⟩)
    have := hρ c (hops c (by simp)); rw [hx] at this
    simp [execOp, ho, this.bool, asBool]

/-! ### Reading -/
/-- The cells at an address, on both sides. -/
structure ReadAt (P : Program) (W0 : World) (s : PS) (a : Addr) (n : Nat) (l : List Value) (s1 : PS) : Prop where
  pl : PL s s1
  own : a.spot ≠ none → inM s1.rd a.block
  heap : s1.heap = s.heap
  next : s1.next = s.next
  get : ∀ M, MaskIn s1 M → ∀ ι W, RH W0 ι M (hv s.heap) W → ∀ a', AR ι a a' → ∃ l', l'.length = n ∧ LR ι l l' ∧ ∀ j v, l'[j]? = some v → W.cell? (a'.add j) = some v

theorem isAg_eq {t : TypeId} {b : Bool} (h : isAg P t = some b) (W : World) : (isAgg t).run P W = .ok b W := by
  unfold isAg at h
  split at h
  · rename_i hu; injection h with h; subst h; simp [isAgg, run_underlying hu]
  · rename_i hu; injection h with h; subst h; simp [isAgg, run_underlying hu]
  · rename_i d h1 h2 hu
    injection h with h; subst h
    simp only [isAgg, Sem.run_bind, run_underlying hu, Result.andThen_ok]
    cases d <;> first | rfl | exact absurd rfl (h1 _) | exact absurd rfl (h2 _ _)
  · cases h
theorem cell_below {W : World} (hb : Below W0.heap.size W0 W) {a : Addr} {v : Value} (h : W0.cell? a = some v) : W.cell? a = some v := by
  rw [hb.cell (World.block_lt_of_cell? _ _ h)]; exact h
variable (hE : ∀ a v, E a = some v → W0.cell? a = some v ∧ atom v = true)
include hE
theorem ext_ok : ∀ (n i : Nat) (a : Addr) (l : List Value), extCells E a n i = some l → l.length = n ∧ ∀ j v, l[j]? = some v → W0.cell? (a.add (i + j)) = some v ∧ atom v = true
  | 0, i, a, l, h => by
    have h' : some [] = some l := h
    injection h' with h'
    subst h'
    exact ⟨rfl, fun j v hv => by simp at hv⟩
  | n + 1, i, a, l, h => by
    have h' : (match E (a.add i) with
      | some v => match extCells E a n (i + 1) with
        | some l => some (v :: l)
        | none => none
      | none => none) = some l := h
    cases h1 : E (a.add i) with
    | none => simp [h1] at h'
    | some v =>
      cases h2 : extCells E a n (i + 1) with
      | none => simp [h1, h2] at h'
      | some t =>
        simp [h1, h2] at h'
        subst h'
        obtain ⟨h3, h4⟩ := ext_ok n (i + 1) a t h2
        refine ⟨by simp [h3], fun j u hu => ?_⟩
        cases j with
        | zero => simp at hu; subst hu; exact hE _ _ h1
        | succ j => have := h4 j u (by simpa using hu); rwa [show i + 1 + j = i + (j + 1) by omega] at this
theorem cells_ok {γ : Type} {no : γ} {k : Value → PS → γ} {R : Value → PS → Prop} {a : Addr} {n : Nat} {f : List Value → PS → γ} (h : ∀ l s1, ReadAt P W0 s a n l s1 → Ans no k R (f l s1)) :
    Ans no k R (pCells no E s a n f) := by
  obtain ⟨b, o, sp⟩ := a
  cases sp with
  | none =>
    refine Ans.onO fun l hl => h l s ⟨PL.refl s, fun h => absurd rfl h, rfl, rfl, fun M hM ι W hR a' ha => ?_⟩
    obtain ⟨h1, h2⟩ := ext_ok hE _ _ _ _ hl
    cases ha with
    | ext => exact ⟨l, h1, .of_atoms fun v hv => by
        obtain ⟨j, hj⟩ := List.mem_iff_getElem?.1 hv
        exact (h2 j v hj).2, fun j v hv => by have := (h2 j v hv).1; rw [Nat.zero_add] at this; exact cell_below hR.below this⟩
  | some sp =>
    refine Ans.opt fun pb hpb => Ans.opt fun l hl => ?_
    rw [touch_eq]
    refine h l _ ⟨PL.touch s b, fun _ => (inM_lor _ _ b).2 (.inr (inM_bit b)), rfl, rfl, fun M hM ι W hR a' ha => ?_⟩
    cases ha with
    | own hi =>
      rename_i i
      have hMb : M b := hM b (.inl ((inM_lor _ _ b).2 (.inr (inM_bit b))))
      exact RH.read hR hMb (by simp [hv, hpb]) hi hl
theorem cell_ok {γ : Type} {no : γ} {k : Value → PS → γ} {R : Value → PS → Prop} {a : Addr} {f : Value → PS → γ} (h : ∀ v s1, ReadAt P W0 s a 1 [v] s1 → Ans no k R (f v s1)) :
    Ans no k R (pCell no E s a f) := by
  obtain ⟨b, o, sp⟩ := a
  cases sp with
  | none =>
    refine Ans.onO fun v hv => h v s ⟨PL.refl s, fun h => absurd rfl h, rfl, rfl, fun M hM ι W hR a' ha => ?_⟩
    obtain ⟨h1, h2⟩ := hE _ _ hv
    cases ha with
    | ext => exact ⟨[v], rfl, .cons (.atom h2) .nil, fun j u hu => by
        cases j with
        | zero => simp at hu; subst hu; exact cell_below hR.below h1
        | succ j => simp at hu⟩
  | some sp =>
    refine Ans.opt fun pb hpb => Ans.opt fun v hv' => ?_
    rw [touch_eq]
    refine h v _ ⟨PL.touch s b, fun _ => (inM_lor _ _ b).2 (.inr (inM_bit b)), rfl, rfl, fun M hM ι W hR a' ha => ?_⟩
    cases ha with
    | own hi =>
      rename_i i
      have hMb : M b := hM b (.inl ((inM_lor _ _ b).2 (.inr (inM_bit b))))
      rw [nth_eq] at hv'
      obtain ⟨r, hr, hvr⟩ := RH.read1 hR hMb (by simp [hv, hpb]) hi hv'
      exact ⟨[r], rfl, .cons hvr .nil, fun j u hu => by
        cases j with
        | zero => simp at hu; subst hu; simpa [Addr.add] using hr
        | succ j => simp at hu⟩

/-- A variable's value at an address, on both sides. -/
structure LoadAt (P : Program) (W0 : World) (s : PS) (t : TypeId) (a : Addr) (v : Value) (s1 : PS) : Prop where
  pl : PL s s1
  heap : s1.heap = s.heap
  next : s1.next = s.next
  get : ∀ M, MaskIn s1 M → ∀ ι W, RH W0 ι M (hv s.heap) W → ∀ a', AR ι a a' → ∃ r, (loadVar t a').run P W = .ok r W ∧ VR ι v r

theorem load_ok {γ : Type} {no : γ} {k : Value → PS → γ} {R : Value → PS → Prop} {t : TypeId} {a : Addr} {f : Value → PS → γ} (h : ∀ v s1, LoadAt P W0 s t a v s1 → Ans no k R (f v s1)) :
    Ans no k R (pLoad no P E t s a f) := by
  unfold pLoad
  cases hA : isAg P t with
  | none => exact .not
  | some b =>
    cases b with
    | false =>
      refine cell_ok (P := P) hE fun v s1 H => h v s1 ⟨H.pl, H.heap, H.next, fun M hM ι W hR a' ha => ?_⟩
      obtain ⟨l', h1, h2, h3⟩ := H.get M hM ι W hR a' ha
      obtain ⟨r, m, rfl, hr, hm⟩ := h2.inv_cons
      refine ⟨r, ?_, hr⟩
      have hc : W.cell? a' = some r := by simpa [Addr.add_zero'] using h3 0 r rfl
      simp [loadVar, isAg_eq hA, hc]
    | true =>
      cases hI : P.info? t with
      | none => simp only [hI]; exact .not
      | some i =>
        simp only [hI]
        refine cells_ok (P := P) hE fun l s1 H => h _ s1 ⟨H.pl, H.heap, H.next, fun M hM ι W hR a' ha => ?_⟩
        obtain ⟨l', h1, h2, h3⟩ := H.get M hM ι W hR a' ha
        refine ⟨.agg ⟨l'⟩, ?_, .agg h2.1 h2.2⟩
        have := run_loadCells_list (P := P) W a' l' h3
        rw [h1] at this
        simp [loadVar, isAg_eq hA, sizeOf, typeInfo, hI, this]

theorem opLoad_ok {γ : Type} {no : γ} {k : Value → PS → γ} {t : TypeId} {a : Operand} (ho : o.op = .load t a) :
    Ans no k (Ok P W0 o fr s) (Option.rec (motive := fun _ => γ) no (fun a => pLoad no P E t s a k) (vP (opd a fr))) := by
  refine Ans.opt fun x hx => load_ok (P := P) hE fun v s1 H => Ans.yes ⟨H.pl, fun M hM ι ρ W hR hρ hF => ?_⟩
  have hx := vP_eq hx
  have ha := hρ a (by simp [ho, Op.operands])
  rw [hx] at ha
  obtain ⟨a', ha', har⟩ := VR.of_ptr ha
  obtain ⟨r, hr, hvr⟩ := H.get M hM ι W hR a' har
  refine Does.value (r := r) (W' := W) ?_ ⟨ι, hvr, ?_⟩
  · simp only [execOp, ho]
    exact run_v (by simp [Instr.loadAt, ha', Instr.sureAddr, hr])
  · rw [H.heap]; exact Post.refl hR _ _
end
end Go.Proofs.YtoimffkejoeadaaGreatDoor.Vm
