/- The machine of our own: what an operation answers, the real operation answers. Part 7: calls, and any operation. -/
import Derived.Test.YtoimffkejoeadaaGreatDoorVm10
namespace Go.Proofs.YtoimffkejoeadaaGreatDoor.Vm
open Go Go.RowKit
set_option linter.unusedVariables false
set_option linter.unusedSimpArgs false

/-- A method of the table is the program's. -/
def MethOk (P : Program) (m : Meth) : Prop :=
  match m.deref with
  | none => ∀ a W, (method (P.types.size + Made.depth) m.t (.pointer (some a)) m.name).run P W = .ok (m.f, .pointer (some a)) W
  | some e => ∀ a W r, (loadVar e a).run P W = .ok r W → (method (P.types.size + Made.depth) m.t (.pointer (some a)) m.name).run P W = .ok (m.f, r) W

/-- What a call of ours answers, the real call answers. -/
def CallOk (P : Program) (W0 : World) (call : Caller) : Prop := ∀ g args s v s1, call g args s = .ok v s1 → PL s s1 ∧ ∀ M, MaskIn s1 M → ∀ ι rargs W, RH W0 ι M (hv s.heap) W → LR ι args rargs → Fresh ι s.next s1.next →
  Calls P g ⟨rargs⟩ W fun e W' => ∃ r, e = .returned r ∧ Good W0 M ι s W v s1 r W'

section
variable {P : Program} {W0 : World} {E : Addr → Option Value} {o : Oper} {fr : Fr} {s : PS} {mt : List Meth} {call : Caller}

theorem enters_run {g : FuncId} (h : enters P g = true) (args : Array Value) (W : World) : (callFunc g args).run P W = .ok (.enter g args) W := by
  unfold enters at h
  cases hf : P.funcs[g]? with
  | none => simp [hf] at h
  | some fn =>
    simp only [hf, Bool.and_eq_true, Bool.not_eq_true'] at h
    obtain ⟨hb, hn⟩ := h
    cases hbody : fn.body with
    | none => simp [hbody] at hb
    | some c => simp [callFunc, hf, hbody]; simpa using hn

theorem cr_ok {γ : Type} {no : γ} {k : Value → PS → γ} {R : Value → PS → Prop} {x : CR} (h : ∀ v s1, x = .ok v s1 → R v s1) : Ans no k R (CR.rec (motive := fun _ => γ) no k x) := by
  cases x with
  | no => exact .not
  | ok v s1 => exact Ans.yes (h v s1 rfl)

theorem go1_ok {γ : Type} {no : γ} {k : Value → PS → γ} (hC : CallOk P W0 call) {g : FuncId} {args : List Value} {s0 : PS} (hpl : PL s s0) (hh : s0.heap = s.heap) (hnx : s0.next = s.next)
    (H : ∀ M, MaskIn s0 M → ∀ ι ρ W, RH W0 ι M (hv s.heap) W → (∀ x ∈ o.op.operands, VR ι (opd x fr) (ρ x)) → ∃ rargs, LR ι args rargs ∧ (enters P g = true → (execOp ρ o).run P W = .ok (.enter g ⟨rargs⟩) W)) :
    Ans no k (Ok P W0 o fr s) (go1 no P call g args s0 k) := by
  unfold go1
  refine Ans.cond' fun he => cr_ok fun v s1 hv1 => ?_
  obtain ⟨h1, h2⟩ := hC g args s0 v s1 hv1
  refine ⟨hpl.trans h1, fun M hM ι ρ W hR hρ hF => ?_⟩
  obtain ⟨rargs, h3, h4⟩ := H M (hM.back h1) ι ρ W hR hρ
  refine Does.enter (h4 he) ?_
  have := h2 M hM ι rargs W (by rw [hh]; exact hR) h3 (by rw [hnx]; exact hF)
  unfold Good at this ⊢
  rw [hh, hnx] at this
  exact this

theorem opds_rel {ι : Nat → Option Info} {ρ : Operand → Value} {c : Call} (ho : o.op = .call c) (hρ : ∀ x ∈ o.op.operands, VR ι (opd x fr) (ρ x)) : LR ι (opds c.args.toList fr) (c.args.toList.map ρ) := by
  rw [opds_eq]
  exact LR.map _ fun x hx => hρ x (arg_mem ho hx)

theorem callee_mem {c : Call} {f : Operand} (ho : o.op = .call c) (hc : c.callee = .value f) : f ∈ o.op.operands := by simp [ho, Op.operands, Call.operands, hc]
theorem recv_mem {c : Call} {f : Operand} {name : String} (ho : o.op = .call c) (hc : c.callee = .invoke f name) : f ∈ o.op.operands := by simp [ho, Op.operands, Call.operands, hc]

theorem VR.of_func {ι : Nat → Option Info} {fn : Fn} {l m : Array Value} {r : Value} (h : VR ι (.func fn l m) r) : ∃ l' m', r = .func fn ⟨l'⟩ ⟨m'⟩ ∧ LR ι l.toList l' ∧ LR ι m.toList m' := by
  cases h with
  | atom h => simp [Vm.atom] at h
  | func hl h hm hh => exact ⟨_, _, rfl, ⟨hl, h⟩, ⟨hm, hh⟩⟩

theorem run_callee {c : Call} {f : Operand} {g : FuncId} {l m : List Value} {ρ : Operand → Value} (ho : o.op = .call c) (hc : c.callee = .value f) (hf : ρ f = .func (.func g) ⟨l⟩ ⟨m⟩) (he : enters P g = true) (W : World) :
    (execOp ρ o).run P W = .ok (.enter g ⟨l ++ c.args.toList.map ρ ++ m⟩) W := by
  have e : c.args.map ρ = ⟨c.args.toList.map ρ⟩ := args_eq rfl ρ
  simp only [execOp, ho, resolve, hc, hf, Deferred.ofValue]
  change (callFunc g _).run P W = _
  rw [enters_run he, e]
  simp

theorem invoke_run {c : Call} {f : Operand} {name : String} {t : TypeId} {a : Addr} {g : FuncId} {r : Value} {ρ : Operand → Value} (ho : o.op = .call c) (hc : c.callee = .invoke f name) (hf : ρ f = .iface t (.pointer (some a))) {W : World}
    (hm : (method (P.types.size + Made.depth) t (.pointer (some a)) name).run P W = .ok (g, r) W) (he : enters P g = true) : (execOp ρ o).run P W = .ok (.enter g ⟨r :: c.args.toList.map ρ⟩) W := by
  have e : c.args.map ρ = ⟨c.args.toList.map ρ⟩ := args_eq rfl ρ
  simp only [execOp, ho, resolve, hc, hf]
  simp only [Sem.run_bind, Sem.run_pure, Result.andThen_ok, invoke, callMethod]
  simp [hm, enters_run he, e]
  exact List.take_of_length_le (by simp)

theorem findM_mem {t : TypeId} {name : String} : ∀ {mt : List Meth} {m : Meth}, findM t name mt = some m → m ∈ mt ∧ m.t = t ∧ m.name = name
  | [], m, h => by cases h
  | x :: l, m, h => by
    have h' : (bif Nat.beq x.t t && x.name == name then some x else findM t name l) = some m := h
    cases hb : (Nat.beq x.t t && x.name == name) with
    | true =>
      rw [hb] at h'
      simp only [cond_true] at h'
      injection h' with h'
      subst h'
      simp only [Bool.and_eq_true, beq_iff_eq] at hb
      exact ⟨by simp, Nat.eq_of_beq_eq_true hb.1, hb.2⟩
    | false =>
      rw [hb] at h'
      obtain ⟨h1, h2⟩ := findM_mem (mt := l) h'
      exact ⟨by simp [h1], h2⟩

variable (hE : ∀ a v, E a = some v → W0.cell? a = some v ∧ atom v = true) (hmt : ∀ m ∈ mt, MethOk P m) (hC : CallOk P W0 call)
include hE hmt hC
theorem invoke_ok {γ : Type} {no : γ} {k : Value → PS → γ} {c : Call} {f : Operand} {name : String} (ho : o.op = .call c) (hc : c.callee = .invoke f name) :
    Ans no k (Ok P W0 o fr s) (pInvoke no P E mt call name (opd f fr) (opds c.args.toList fr) s k) := by
  unfold pInvoke
  split
  · rename_i t v hv
    have hv := vF_eq hv
    refine Ans.onO fun a ha => Ans.onO fun m hm => ?_
    have ha := vP_eq ha
    subst ha
    obtain ⟨hm1, hm2, hm3⟩ := findM_mem hm
    have hok := hmt m hm1
    unfold MethOk at hok
    have recv : ∀ (ι : Nat → Option Info) (ρ : Operand → Value), (∀ x ∈ o.op.operands, VR ι (opd x fr) (ρ x)) → ∃ a', ρ f = .iface t (.pointer (some a')) ∧ AR ι a a' := fun ι ρ hρ => by
      have := hρ f (recv_mem ho hc)
      rw [hv] at this
      obtain ⟨w, hw, hvw⟩ := this.of_iface
      obtain ⟨a', rfl, har⟩ := VR.of_ptr hvw
      exact ⟨a', hw, har⟩
    split
    · rename_i hd
      rw [hd] at hok
      simp only at hok
      refine go1_ok (o := o) (fr := fr) hC (PL.refl s) rfl rfl fun M hM ι ρ W hR hρ => ?_
      obtain ⟨a', hw, har⟩ := recv ι ρ hρ
      refine ⟨_, .cons har.ptr (opds_rel ho hρ), fun he => invoke_run ho hc hw ?_ he⟩
      rw [← hm2, ← hm3]
      exact hok a' W
    · rename_i e hd
      rw [hd] at hok
      simp only at hok
      refine load_ok (P := P) hE fun x s1 H => go1_ok (o := o) (fr := fr) hC H.pl H.heap H.next fun M hM ι ρ W hR hρ => ?_
      obtain ⟨a', hw, har⟩ := recv ι ρ hρ
      obtain ⟨r, hr, hvr⟩ := H.get M hM ι W hR a' har
      refine ⟨_, .cons hvr (opds_rel ho hρ), fun he => invoke_run ho hc hw ?_ he⟩
      rw [← hm2, ← hm3]
      exact hok a' W r hr
  · exact .not

theorem call_ok {γ : Type} {no : γ} {k : Value → PS → γ} {c : Call} (ho : o.op = .call c) : Ans no k (Ok P W0 o fr s) (pCallOp no P E mt o c call fr s k) := by
  have hq : Ans no k (Ok P W0 o fr s) (pQuiet no P o fr s k) := quiet_ok' (by simp [ho])
  unfold pCallOp
  cases hc : c.callee with
  | value f =>
    have other : Ans no k (Ok P W0 o fr s) (match opd f fr with
        | .func (.func g) first cap => go1 no P call g (cat (cat first.toList (opds c.args.toList fr)) cap.toList) s k
        | _ => no) := by
      split
      · rename_i g first cap hf
        refine go1_ok (o := o) (fr := fr) hC (PL.refl s) rfl rfl fun M hM ι ρ W hR hρ => ?_
        have := hρ f (callee_mem ho hc)
        rw [hf] at this
        obtain ⟨l', m', h1, h2, h3⟩ := this.of_func
        rw [cat_eq, cat_eq]
        exact ⟨_, (h2.append (opds_rel ho hρ)).append h3, fun he => run_callee ho hc h1 he W⟩
      · exact .not
    cases f with
    | func g =>
      simp only []
      cases he : enters P g with
      | false => exact hq
      | true =>
        simp only [cond_true]
        have := go1_ok (no := no) (k := k) (o := o) (fr := fr) (g := g) (args := opds c.args.toList fr) hC (PL.refl s) rfl rfl fun M hM ι ρ W hR hρ => by
          have := hρ (.func g) (callee_mem ho hc)
          obtain ⟨l', m', h1, h2, h3⟩ := VR.of_func (l := #[]) (m := #[]) this
          have hl := h2.inv_nil
          have hm := h3.inv_nil
          subst hl; subst hm
          refine ⟨_, opds_rel ho hρ, fun he => ?_⟩
          have := run_callee (P := P) ho hc h1 he W
          simpa using this
        unfold go1 at this
        rw [he] at this
        exact this
    | tmp _ => exact other
    | const _ => exact other
    | global _ => exact other
  | invoke f name => exact invoke_ok hE hmt hC ho hc
  | builtin b =>
    simp only [quietly]
    cases b with
    | len =>
      simp only []
      cases ht : (c.argTypes[0]?).bind P.underlying with
      | none => exact hq
      | some d =>
        cases d with
        | slice e =>
          cases hx : c.args.toList with
          | nil => exact hq
          | cons x l =>
            cases l with
            | nil => exact len_ok ho hc ht hx
            | cons _ _ => exact hq
        | _ => exact hq
    | cap =>
      simp only []
      cases ht : (c.argTypes[0]?).bind P.underlying with
      | none => exact hq
      | some d =>
        cases d with
        | slice e =>
          cases hx : c.args.toList with
          | nil => exact hq
          | cons x l =>
            cases l with
            | nil => exact cap_ok ho hc ht hx
            | cons _ _ => exact hq
        | _ => exact hq
    | append => exact append_ok hE ho hc
    | copy => exact copy_ok hE ho hc
    | _ => exact hq

omit hmt hC in
theorem pop1_ok {γ : Type} {no : γ} {k : Value → PS → γ} : Ans no k (Ok P W0 o fr s) (pop1 no P E o fr s k) := by
  have hq : (∀ cs b, o.op ≠ .select cs b) → Ans no k (Ok P W0 o fr s) (pQuiet no P o fr s k) := fun h => quiet_ok' h
  unfold pop1
  cases ho : o.op with
  | move x => exact Ans.yes (move_ok (.inl ho))
  | assign x => exact Ans.yes (move_ok (.inr ho))
  | pick c a b => exact pick_ok ho
  | alloc t =>
    simp only []
    cases hz : zeroCells? P t with
    | none => exact .not
    | some z => exact opAlloc_ok ho hz
  | box t x => exact opBox_ok ho
  | build t ps => exact opBuild_ok ho
  | buildSlice t n ps => exact opBuildSlice_ok ho
  | load t a => exact opLoad_ok hE ho
  | store t a x => exact opStore_ok ho
  | nilCheck x => exact nilCheck_ok ho
  | fieldAddr t x f => exact fieldAddr_ok ho
  | field t x f => exact field_ok ho
  | indexAddr t x ix => exact indexAddr_ok ho
  | index t x ix => exact index_ok ho
  | slice t x lo hi mx => exact opSlice_ok ho
  | makeSlice t l c => exact opMake_ok ho
  | makeInterface t x =>
    simp only []
    cases hu : P.underlying t with
    | none => exact .not
    | some d => cases d <;> first | exact .not | exact makeInterface_ok ho hu (fun ms h => by cases h)
  | makeFunc fn a b => exact Ans.yes (makeFunc_ok ho)
  | typeAssert x xt t ok => exact assert_ok ho
  | extract t ix => exact extract_ok ho
  | binOp op t x y sh => exact bin_ok ho
  | unOp op t x =>
    cases op with
    | not => exact not_ok ho
    | _ => exact hq (by simp [ho])
  | select cs b => exact .not
  | _ => exact hq (by simp [ho])
/-- Any operation. -/
theorem pop_ok {γ : Type} {no : γ} {k : Value → PS → γ} : Ans no k (Ok P W0 o fr s) (pop no P E mt o call fr s k) := by
  have h1 : Ans no k (Ok P W0 o fr s) (pop1 no P E o fr s k) := pop1_ok hE
  unfold pop
  cases ho : o.op with
  | call c => exact call_ok hE hmt hC ho
  | _ => exact h1
end
end Go.Proofs.YtoimffkejoeadaaGreatDoor.Vm
