/- The machine of our own, given more rounds, answers the same. -/
import Derived.Test.YtoimffkejoeadaaGreatDoorVm19
namespace Go.Proofs.YtoimffkejoeadaaGreatDoor.Vm
open Go
set_option linter.unusedVariables false
set_option linter.unusedSimpArgs false

def LeX (x y : XR) : Prop := x = .no ∨ x = y
def LeO (x y : OR) : Prop := x = .no ∨ x = y
def LeC (x y : CR) : Prop := x = .no ∨ x = y
def LeCall (c c' : Caller) : Prop := ∀ g a s, LeC (c g a s) (c' g a s)
theorem LeX.refl (x : XR) : LeX x x := .inr rfl
theorem LeO.refl (x : OR) : LeO x x := .inr rfl
theorem LeC.refl (x : CR) : LeC x x := .inr rfl

/-- What an operation comes to, whatever is done with it. -/
def Comes (f : ∀ {γ : Type}, γ → (Value → PS → γ) → γ) (v : Value) (s' : PS) : Prop := ∀ (γ : Type) (no : γ) (k : Value → PS → γ), f no k = k v s'

section
variable {P : Program} {E : Addr → Option Value} {mt : List Meth} {c c' : Caller}
theorem cr_mono {γ : Type} {no : γ} {k : Value → PS → γ} {x y : CR} (h : LeC x y) : CR.rec (motive := fun _ => γ) no k x = no ∨ CR.rec (motive := fun _ => γ) no k x = CR.rec (motive := fun _ => γ) no k y := by
  rcases h with h | h
  · left; rw [h]
  · right; rw [h]
theorem go1_mono {γ : Type} {no : γ} {k : Value → PS → γ} (h : LeCall c c') (g : FuncId) (args : List Value) (s : PS) : go1 no P c g args s k = no ∨ go1 no P c g args s k = go1 no P c' g args s k := by
  unfold go1
  cases enters P g with
  | true => exact cr_mono (h g args s)
  | false => exact .inl rfl
theorem cells_no {γ : Type} {no : γ} {k k' : List Value → PS → γ} (h : ∀ v s, k v s = no ∨ k v s = k' v s) (s : PS) (a : Addr) (n : Nat) : pCells no E s a n k = no ∨ pCells no E s a n k = pCells no E s a n k' := by
  obtain ⟨b, o, sp⟩ := a
  cases sp with
  | none =>
    unfold pCells
    dsimp only
    cases extCells E ⟨b, o, none⟩ n 0 with
    | none => exact .inl rfl
    | some l => exact h _ _
  | some sp =>
    unfold pCells
    simp only
    cases getH b s.heap with
    | none => exact .inl rfl
    | some pb =>
      simp only
      cases cut pb.cells o n with
      | none => exact .inl rfl
      | some l => simp only [touch_eq]; exact h _ _
theorem cell_no {γ : Type} {no : γ} {k k' : Value → PS → γ} (h : ∀ v s, k v s = no ∨ k v s = k' v s) (s : PS) (a : Addr) : pCell no E s a k = no ∨ pCell no E s a k = pCell no E s a k' := by
  obtain ⟨b, o, sp⟩ := a
  cases sp with
  | none =>
    unfold pCell
    dsimp only
    cases E (Addr.add ⟨b, o, none⟩ 0) with
    | none => exact .inl rfl
    | some l => exact h _ _
  | some sp =>
    unfold pCell
    simp only
    cases getH b s.heap with
    | none => exact .inl rfl
    | some pb =>
      simp only
      cases nth pb.cells o with
      | none => exact .inl rfl
      | some l => simp only [touch_eq]; exact h _ _
theorem load_no {γ : Type} {no : γ} {k k' : Value → PS → γ} (h : ∀ v s, k v s = no ∨ k v s = k' v s) (t : TypeId) (s : PS) (a : Addr) : pLoad no P E t s a k = no ∨ pLoad no P E t s a k = pLoad no P E t s a k' := by
  unfold pLoad
  cases isAg P t with
  | none => exact .inl rfl
  | some b =>
    cases b with
    | false => exact cell_no h s a
    | true =>
      simp only
      cases P.info? t with
      | none => exact .inl rfl
      | some i => exact cells_no (fun v s => h _ _) s a _
theorem pop_mono {γ : Type} {no : γ} {k : Value → PS → γ} (h : LeCall c c') (o : Oper) (fr : Fr) (s : PS) : pop no P E mt o c fr s k = no ∨ pop no P E mt o c fr s k = pop no P E mt o c' fr s k := by
  unfold pop
  cases ho : o.op with
  | call cl =>
    simp only
    unfold pCallOp
    cases hc : cl.callee with
    | value f =>
      have other : ((match opd f fr with
          | .func (.func g) first cap => go1 no P c g (cat (cat first.toList (opds cl.args.toList fr)) cap.toList) s k
          | _ => no) = no) ∨ ((match opd f fr with
          | .func (.func g) first cap => go1 no P c g (cat (cat first.toList (opds cl.args.toList fr)) cap.toList) s k
          | _ => no) = (match opd f fr with
          | .func (.func g) first cap => go1 no P c' g (cat (cat first.toList (opds cl.args.toList fr)) cap.toList) s k
          | _ => no)) := by
        split
        · exact go1_mono h _ _ _
        · exact .inl rfl
      cases f with
      | func g =>
        simp only []
        cases enters P g with
        | true => exact cr_mono (h _ _ _)
        | false => exact .inr rfl
      | tmp _ => exact other
      | const _ => exact other
      | global _ => exact other
    | invoke r name =>
      simp only
      unfold pInvoke
      cases vF (opd r fr) with
      | no => exact .inl rfl
      | ifc t v =>
        simp only
        cases vP v with
        | none => exact .inl rfl
        | some a =>
          simp only [onO_some]
          cases findM t name mt with
          | none => exact .inl rfl
          | some m =>
            simp only [onO_some]
            cases m.deref with
            | none => exact go1_mono h _ _ _
            | some e => exact load_no (fun v s => go1_mono h _ _ _) _ _ _
    | builtin b => exact .inr rfl
  | _ => exact .inr rfl

theorem step_mono (h : LeCall c c') (ops : Array Oper) (o : Oper) (fr : Fr) (s : PS) : LeO (opStep P E mt ops o c fr s) (opStep P E mt ops o c' fr s) := by
  have hg : LeO (opGo P E mt o c fr s) (opGo P E mt o c' fr s) := pop_mono h o fr s
  unfold opStep
  cases o.op.operands.toList.all constOk with
  | false => exact .inl rfl
  | true =>
    simp only [cond_true]
    cases hgd : o.guard with
    | none => exact hg
    | some jb =>
      obtain ⟨j, b⟩ := jb
      cases hd : (ops[j]?).bind (·.dst) with
      | none => cases b <;> (simp only [hd]; exact .inl rfl)
      | some d =>
        cases hv : vB (getF d fr) with
        | none => cases b <;> (simp only [hd, hv]; exact .inr rfl)
        | some t => cases b <;> cases t <;> (simp only [hd, hv]; first | exact .inr rfl | exact hg)
theorem text_mono (h : LeCall c c') (ops : Array Oper) : ∀ (l : List Oper) (fr : Fr) (s : PS), LeO (opsText P E mt ops l c fr s) (opsText P E mt ops l c' fr s)
  | [], fr, s => .inr rfl
  | o :: l, fr, s => by
    show LeO (OR.rec (motive := fun _ => OR) .no (opsText P E mt ops l c) (opStep P E mt ops o c fr s)) (OR.rec (motive := fun _ => OR) .no (opsText P E mt ops l c') (opStep P E mt ops o c' fr s))
    rcases step_mono (P := P) (E := E) (mt := mt) h ops o fr s with e | e
    · left; rw [e]
    · rw [← e]
      cases opStep P E mt ops o c fr s with
      | no => exact .inl rfl
      | ok fr1 s1 => exact text_mono h ops l fr1 s1
theorem draw_mono (h : LeCall c c') (ops : Array Oper) : ∀ (l : List (Oper × Nat)) (j : Nat) (done : List Rec) (fr : Fr) (s : PS), LeO (opsDraw P E mt ops l j done c fr s) (opsDraw P E mt ops l j done c' fr s)
  | [], j, done, fr, s => .inr rfl
  | x :: l, j, done, fr, s => by
    have unf : ∀ c : Caller, opsDraw P E mt ops (x :: l) j done c fr s = OR.rec (motive := fun _ => OR) .no (fun fr t =>
        bif Nat.beq t.rd 0 && Nat.beq t.wr 0 then opsDraw P E mt ops l (j + 1) done c fr ⟨t.heap, t.next, s.rd, s.wr⟩
        else bif clashes x.2 t.rd t.wr done then .no
        else fN (Nat.lor s.rd t.rd) fun rd => fN (Nat.lor s.wr t.wr) fun wr => opsDraw P E mt ops l (j + 1) (⟨j, t.rd, t.wr⟩ :: done) c fr ⟨t.heap, t.next, rd, wr⟩) (opStep P E mt ops x.1 c fr ⟨s.heap, s.next, 0, 0⟩) := fun _ => rfl
    rw [unf c, unf c']
    rcases step_mono (P := P) (E := E) (mt := mt) h ops x.1 fr ⟨s.heap, s.next, 0, 0⟩ with e | e
    · left; rw [e]
    · rw [← e]
      cases opStep P E mt ops x.1 c fr ⟨s.heap, s.next, 0, 0⟩ with
      | no => exact .inl rfl
      | ok fr1 t =>
        show LeO (bif _ then _ else _) (bif _ then _ else _)
        cases (Nat.beq t.rd 0 && Nat.beq t.wr 0) with
        | true => exact draw_mono h ops l _ _ _ _
        | false =>
          simp only [cond_false]
          cases clashes x.2 t.rd t.wr done with
          | true => exact .inl rfl
          | false => simp only [cond_false, fN_eq]; exact draw_mono h ops l _ _ _ _

variable {orc : FuncId → List Value → Option Value}
theorem body_mono {ih ih' : Code → Fr → PS → XR} (h : ∀ c fr s, LeX (ih c fr s) (ih' c fr s)) (f : FuncId) (args : List Value) (s : PS) : LeC (bodyOf P E f ih args s) (bodyOf P E f ih' args s) := by
  unfold bodyOf
  cases P.funcs[f]? with
  | none => exact .inl rfl
  | some fn =>
    simp only
    cases fn.body with
    | none => exact .inl rfl
    | some c =>
      simp only
      cases (Nat.ble fn.ntmps 256 && slotsOk fn.ntmps c && fn.results.toList.all (resultOk fn.ntmps)) with
      | false => exact .inl rfl
      | true =>
        simp only [cond_true]
        cases Nat.ble (len args) fn.ntmps with
        | false => exact .inl rfl
        | true =>
          simp only [cond_true, frameOf_eq]
          rcases h c (fillF args 0 fr0) s with e | e
          · left; rw [e]
          · right; rw [e]
theorem callBy_mono {ih ih' : Code → Fr → PS → XR} (h : ∀ c fr s, LeX (ih c fr s) (ih' c fr s)) : LeCall (callBy P E orc ih) (callBy P E orc ih') := fun g a s => by
  unfold callBy
  cases orc g a with
  | some v => exact .inr rfl
  | none => exact body_mono h g a s

theorem exec1_mono {ih ih' : Code → Fr → PS → XR} (h : ∀ c fr s, LeX (ih c fr s) (ih' c fr s)) (c : Code) (fr : Fr) (s : PS) : LeX (exec1 P E mt orc c ih fr s) (exec1 P E mt orc c ih' fr s) := by
  have hc := callBy_mono (P := P) (E := E) (orc := orc) h
  cases c with
  | skip => exact .inr rfl
  | exit id => exact .inr rfl
  | ret => exact .inr rfl
  | seq a b =>
    show LeX (XR.rec (motive := fun _ => XR) .no (ih b) (fun id fr s => .exit id fr s) (fun fr s => .ret fr s) (ih a fr s)) (XR.rec (motive := fun _ => XR) .no (ih' b) (fun id fr s => .exit id fr s) (fun fr s => .ret fr s) (ih' a fr s))
    rcases h a fr s with e | e
    · left; rw [e]
    · rw [← e]
      cases ih a fr s with
      | no => exact .inl rfl
      | normal fr1 s1 => exact h b fr1 s1
      | exit _ _ _ => exact .inr rfl
      | ret _ _ => exact .inr rfl
  | cond x a b =>
    show LeX (Option.rec (motive := fun _ => XR) .no (fun t => Bool.rec (motive := fun _ => XR) (ih b fr s) (ih a fr s) t) (vB (opd x fr))) (Option.rec (motive := fun _ => XR) .no (fun t => Bool.rec (motive := fun _ => XR) (ih' b fr s) (ih' a fr s) t) (vB (opd x fr)))
    cases vB (opd x fr) with
    | none => exact .inl rfl
    | some t => cases t with
      | true => exact h a fr s
      | false => exact h b fr s
  | block id b =>
    show LeX (XR.rec (motive := fun _ => XR) .no (fun fr s => .normal fr s) (fun k fr s => bif Nat.beq k id then .normal fr s else .exit k fr s) (fun fr s => .ret fr s) (ih b fr s)) (XR.rec (motive := fun _ => XR) .no (fun fr s => .normal fr s) (fun k fr s => bif Nat.beq k id then .normal fr s else .exit k fr s) (fun fr s => .ret fr s) (ih' b fr s))
    rcases h b fr s with e | e
    · left; rw [e]
    · right; rw [e]
  | loop b =>
    show LeX (XR.rec (motive := fun _ => XR) .no (ih (.loop b)) (fun id fr s => .exit id fr s) (fun fr s => .ret fr s) (ih b fr s)) (XR.rec (motive := fun _ => XR) .no (ih' (.loop b)) (fun id fr s => .exit id fr s) (fun fr s => .ret fr s) (ih' b fr s))
    rcases h b fr s with e | e
    · left; rw [e]
    · rw [← e]
      cases ih b fr s with
      | no => exact .inl rfl
      | normal fr1 s1 => exact h (.loop b) fr1 s1
      | exit _ _ _ => exact .inr rfl
      | ret _ _ => exact .inr rfl
  | region id ops draw =>
    cases draw with
    | false =>
      show LeX (OR.rec (motive := fun _ => XR) .no (fun fr s => .normal fr s) (opsText P E mt ops ops.toList (callBy P E orc ih) fr s)) (OR.rec (motive := fun _ => XR) .no (fun fr s => .normal fr s) (opsText P E mt ops ops.toList (callBy P E orc ih') fr s))
      rcases text_mono (P := P) (E := E) (mt := mt) hc ops ops.toList fr s with e | e
      · left; rw [e]
      · right; rw [e]
    | true =>
      show LeX ((bif apartOk ops (aheads ops.toList []) then
        fun ih fr s => OR.rec (motive := fun _ => XR) .no (fun fr s => .normal fr s) (opsDraw P E mt ops (ops.toList.zip (aheads ops.toList [])) 0 [] (callBy P E orc ih) fr s)
        else fun _ _ _ => .no : (Code → Fr → PS → XR) → Fr → PS → XR) ih fr s) ((bif apartOk ops (aheads ops.toList []) then
        fun ih fr s => OR.rec (motive := fun _ => XR) .no (fun fr s => .normal fr s) (opsDraw P E mt ops (ops.toList.zip (aheads ops.toList [])) 0 [] (callBy P E orc ih) fr s)
        else fun _ _ _ => .no : (Code → Fr → PS → XR) → Fr → PS → XR) ih' fr s)
      cases apartOk ops (aheads ops.toList []) with
      | false => exact .inl rfl
      | true =>
        simp only [cond_true]
        rcases draw_mono (P := P) (E := E) (mt := mt) hc ops (ops.toList.zip (aheads ops.toList [])) 0 [] fr s with e | e
        · left; rw [e]
        · right; rw [e]
  | _ => exact .inl rfl
theorem exec_step (n : Nat) : ∀ c fr s, LeX (exec P E mt orc n c fr s) (exec P E mt orc (n + 1) c fr s) := by
  induction n with
  | zero => exact fun c fr s => .inl rfl
  | succ n ih => exact fun c fr s => exec1_mono ih c fr s
theorem exec_mono {n m : Nat} (h : n ≤ m) (c : Code) (fr : Fr) (s : PS) : LeX (exec P E mt orc n c fr s) (exec P E mt orc m c fr s) := by
  induction h with
  | refl => exact .inr rfl
  | @step m _ ih =>
    rcases ih with e | e
    · exact .inl e
    · rcases exec_step (P := P) (E := E) (mt := mt) (orc := orc) m c fr s with e' | e'
      · exact .inl (e.trans e')
      · exact .inr (e.trans e')
theorem run_mono {n m : Nat} (h : n ≤ m) : LeCall (runCall P E mt orc n) (runCall P E mt orc m) := callBy_mono (exec_mono h)
end
end Go.Proofs.YtoimffkejoeadaaGreatDoor.Vm
