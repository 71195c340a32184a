/- The logic over the machine: what it says of an operation, the machine does. -/
import Derived.Test.YtoimffkejoeadaaGreatDoorW2
namespace Go.Proofs.YtoimffkejoeadaaGreatDoor.Vm
open Go Go.RowKit
set_option linter.unusedVariables false
set_option linter.unusedSimpArgs false

/-! ### Shapes: some value -/
theorem wsh_some {sh : Sh} {K : Value → Prop} (h : wsh sh K) : ∃ v, K v := by
  cases sh with
  | slc => obtain ⟨a, n, c, h⟩ := h; exact ⟨_, h⟩
  | _ => obtain ⟨a, h⟩ := h; exact ⟨_, h⟩
theorem wshL_some : ∀ {l : List Sh} {K : List Value → Prop}, wshL l K → ∃ vs, vs.length = l.length ∧ K vs
  | [], K, h => ⟨[], rfl, h⟩
  | sh :: t, K, h => by
    obtain ⟨v, h⟩ := wsh_some h
    obtain ⟨vs, h1, h2⟩ := wshL_some h
    exact ⟨v :: vs, by simp [h1], h2⟩
section
variable {P : Program} {E : Addr → Option Value}
theorem wtv_some {t : TypeId} {K : Value → Prop} (h : wtv P t K) : ∃ v, K v := by
  unfold wtv at h
  split at h
  · obtain ⟨l, _, h⟩ := wshL_some h; exact ⟨_, h⟩
  · exact wsh_some h
theorem wtvs_some : ∀ {ts : List TypeId} {K : List Value → Prop}, wtvs P ts K → ∃ l, K l
  | [], K, h => ⟨[], h⟩
  | t :: ts, K, h => by
    obtain ⟨v, h⟩ := wtv_some h
    obtain ⟨l, h⟩ := wtvs_some h
    exact ⟨_, h⟩
theorem wres_some {ts : List TypeId} {K : Value → Prop} (h : wres P ts K) : ∃ v, K v := by
  unfold wres at h
  split at h
  · exact wtv_some h
  · obtain ⟨l, h⟩ := wtvs_some h; exact ⟨_, h⟩
theorem wres_eq {ts : List TypeId} {v : Value} {K : Value → Prop} (h : wres P ts fun u => v = u ∧ K u) : K v := by
  obtain ⟨u, rfl, h⟩ := wres_some h
  exact h

/-! ### Reading -/
def RdIn (r : RS) (s s' : PS) : Prop := match r with
  | .nought => s' = s
  | .addr a => s'.heap = s.heap ∧ s'.next = s.next ∧ s'.wr = s.wr ∧ ∀ b, inM s'.rd b → inM s.rd b ∨ (a.spot ≠ none ∧ b = a.block)
  | .all => True
theorem St.touch {ws : WS} {s : PS} (h : St ws s) (b : Nat) : St ws ⟨s.heap, s.next, Nat.lor s.rd (bit b), s.wr⟩ := ⟨h.h, h.n, h.w⟩
theorem rdIn_touch (s : PS) (b o : Nat) (sp : Nat) : RdIn (.addr ⟨b, o, some sp⟩) s ⟨s.heap, s.next, Nat.lor s.rd (bit b), s.wr⟩ :=
  ⟨rfl, rfl, rfl, fun c hc => by
    rcases (inM_lor _ _ c).1 hc with h | h
    · exact .inl h
    · exact .inr ⟨by simp, (inM_bit_iff b c).1 h⟩⟩
theorem rdIn_refl (r : RS) (s : PS) : RdIn r s s := by
  cases r with
  | nought => rfl
  | addr a => exact ⟨rfl, rfl, rfl, fun _ h => .inl h⟩
  | all => trivial
theorem St.getH {ws : WS} {s : PS} (h : St ws s) (b : Nat) : getH b s.heap = ws.h b := by rw [← h.h]; rfl
theorem add_none' (b o n : Nat) : (Addr.add ⟨b, o, none⟩ n : Addr) = ⟨b, o + n, none⟩ := by
  unfold Addr.add
  split <;> simp_all
theorem padd_ext (b o n : Nat) : padd ⟨b, o, none⟩ n = ⟨b, o + n, none⟩ := add_none' b o n
theorem padd_own (b o n sp : Nat) : padd ⟨b, o, some sp⟩ n = ⟨b, o + n, some 0⟩ := rfl
theorem cell_comes {ws : WS} {s : PS} (hs : St ws s) {a : Addr} {v : Value} (h : rd E ws.h a = some v) :
    ∃ s', (∀ (γ : Type) (no : γ) (k : Value → PS → γ), pCell no E s a k = k v s') ∧ St ws s' ∧ RdIn (.addr a) s s' := by
  obtain ⟨b, o, sp⟩ := a
  cases sp with
  | none =>
    refine ⟨s, fun γ no k => ?_, hs, rdIn_refl _ _⟩
    have h' : E ⟨b, o, none⟩ = some v := h
    show onO no (E (Addr.add ⟨b, o, none⟩ 0)) _ = _
    rw [add_none']
    simp [h']
  | some sp =>
    have h' : (match ws.h b with | some pb => pb.cells[o]? | none => none) = some v := h
    cases hb : ws.h b with
    | none => rw [hb] at h'; cases h'
    | some pb =>
      rw [hb] at h'
      refine ⟨_, fun γ no k => ?_, hs.touch b, rdIn_touch s b o sp⟩
      show Option.rec (motive := fun _ => γ) no _ (Vm.getH b s.heap) = _
      rw [hs.getH, hb]
      show Option.rec (motive := fun _ => γ) no _ (nth pb.cells o) = _
      rw [nth_eq]
      have h'' : pb.cells[o]? = some v := h'
      rw [h'']
      simp only [touch_eq]
theorem cut_of : ∀ (l : List Value) (o : Nat) (r : List Value), (∀ j u, r[j]? = some u → l[o + j]? = some u) → cut l o r.length = some r
  | [], o, [], h => rfl
  | [], o, u :: r, h => by have := h 0 u rfl; simp at this
  | x :: t, o + 1, r, h => cut_of t o r fun j u hj => by
    have := h j u hj
    rw [show o + 1 + j = (o + j) + 1 by omega] at this
    simpa using this
  | x :: t, 0, [], h => rfl
  | x :: t, 0, u :: r, h => by
    have e := h 0 u rfl
    simp at e
    subst e
    have ih := cut_of t 0 r fun j u hj => by
      have := h (j + 1) u (by simpa using hj)
      rw [Nat.zero_add] at this ⊢
      simpa using this
    show Option.rec (motive := fun _ => Option (List Value)) none (fun t => some (x :: t)) (cut t 0 r.length) = _
    rw [ih]
theorem ext_of : ∀ (n i : Nat) (a : Addr) (l : List Value), l.length = n → (∀ j u, l[j]? = some u → E (a.add (i + j)) = some u) → extCells E a n i = some l
  | 0, i, a, l, hl, h => by rw [List.length_eq_zero_iff.1 hl]; rfl
  | n + 1, i, a, [], hl, h => by simp at hl
  | n + 1, i, a, u :: l, hl, h => by
    have ih := ext_of n (i + 1) a l (by simpa using hl) fun j v hj => by
      have := h (j + 1) v (by simpa using hj)
      rwa [show i + (j + 1) = i + 1 + j by omega] at this
    show (match E (a.add i) with
      | some v => match extCells E a n (i + 1) with
        | some l => some (v :: l)
        | none => none
      | none => none) = _
    have h0 := h 0 u rfl
    rw [Nat.add_zero] at h0
    rw [h0, ih]
theorem cells_comes {ws : WS} {s : PS} (hs : St ws s) {a : Addr} {l : List Value} (h : ∀ j u, l[j]? = some u → rd E ws.h (padd a j) = some u) (ha : l ≠ [] ∨ a.spot = none ∨ ∃ pb, ws.h a.block = some pb) :
    ∃ s', (∀ (γ : Type) (no : γ) (k : List Value → PS → γ), pCells no E s a l.length k = k l s') ∧ St ws s' ∧ RdIn (.addr a) s s' := by
  obtain ⟨b, o, sp⟩ := a
  cases sp with
  | none =>
    refine ⟨s, fun γ no k => ?_, hs, rdIn_refl _ _⟩
    show onO no (extCells E ⟨b, o, none⟩ l.length 0) _ = _
    rw [ext_of (E := E) l.length 0 ⟨b, o, none⟩ l rfl fun j u hj => by
      have := h j u hj
      rw [padd_ext] at this
      rw [Nat.zero_add, add_none']
      exact this]
    rfl
  | some sp =>
    have hb : ∃ pb, ws.h b = some pb := by
      rcases ha with ha | ha | ha
      · cases l with
        | nil => exact absurd rfl ha
        | cons u l =>
          have := h 0 u rfl
          rw [padd_own] at this
          have h' : (match ws.h b with | some pb => pb.cells[o + 0]? | none => none) = some u := this
          cases hb : ws.h b with
          | none => rw [hb] at h'; cases h'
          | some pb => exact ⟨pb, rfl⟩
      · cases ha
      · exact ha
    obtain ⟨pb, hb⟩ := hb
    refine ⟨_, fun γ no k => ?_, hs.touch b, rdIn_touch s b o sp⟩
    show Option.rec (motive := fun _ => γ) no _ (Vm.getH b s.heap) = _
    rw [hs.getH, hb]
    show Option.rec (motive := fun _ => γ) no _ (cut pb.cells o l.length) = _
    rw [cut_of pb.cells o l fun j u hj => by
      have := h j u hj
      rw [padd_own] at this
      have h' : (match ws.h b with | some pb => pb.cells[o + j]? | none => none) = some u := this
      rw [hb] at h'
      exact h']
    simp only [touch_eq]
theorem ldL_some {h : Nat → Option PB} {a : Addr} : ∀ {l : List Sh} {i : Nat} {K : List Value → Prop}, ldL E h a i l K → ∃ vs, vs.length = l.length ∧ (∀ j u, vs[j]? = some u → rd E h (padd a (i + j)) = some u) ∧ K vs
  | [], i, K, hk => ⟨[], rfl, fun j u hj => by simp at hj, hk⟩
  | sh :: t, i, K, hk => by
    obtain ⟨v, h1, h2⟩ := wsh_some hk
    obtain ⟨vs, h3, h4, h5⟩ := ldL_some h2
    refine ⟨v :: vs, by simp [h3], fun j u hj => ?_, h5⟩
    cases j with
    | zero => simp at hj; subst hj; exact h1
    | succ j =>
      rw [show i + (j + 1) = i + 1 + j by omega]
      exact h4 j u (by simpa using hj)
theorem load_comes {ws : WS} {s : PS} (hs : St ws s) {t : TypeId} {a : Addr} {k : KV} (h : wload P E t a ws k) :
    ∃ v s', (∀ (γ : Type) (no : γ) (k : Value → PS → γ), pLoad no P E t s a k = k v s') ∧ St ws s' ∧ k v ws ∧ RdIn (.addr a) s s' := by
  unfold wload at h
  unfold pLoad
  cases hA : isAg P t with
  | none => rw [hA] at h; exact h.elim
  | some b =>
    rw [hA] at h
    cases b with
    | false =>
      obtain ⟨v, h1, h2⟩ := wsh_some h
      obtain ⟨s', h3, h4, h5⟩ := cell_comes hs h1
      exact ⟨v, s', h3, h4, h2, h5⟩
    | true =>
      simp only at h ⊢
      cases hI : P.info? t with
      | none => rw [hI] at h; exact h.elim
      | some i =>
        rw [hI] at h
        simp only at h
        cases hc : (Nat.beq (leavesN P 20 t).length i.size && !Nat.beq i.size 0) with
        | false => rw [hc] at h; exact h.elim
        | true =>
          rw [hc] at h
          simp only [cond_true] at h
          rw [Bool.and_eq_true] at hc
          have hc1 := Nat.eq_of_beq_eq_true hc.1
          have hc2 : i.size ≠ 0 := fun e => by rw [e] at hc; simp at hc
          obtain ⟨vs, h1, h2, h3⟩ := ldL_some h
          have hne : vs ≠ [] := fun e => by subst e; simp at h1; omega
          obtain ⟨s', h4, h5, h6⟩ := cells_comes (E := E) hs (a := a) (l := vs) (fun j u hj => by have := h2 j u hj; rwa [Nat.zero_add] at this) (.inl hne)
          refine ⟨.agg ⟨vs⟩, s', fun γ no k => ?_, h5, h3, h6⟩
          rw [h1, hc1] at h4
          exact h4 γ no fun l s => k (.agg ⟨l⟩) s
theorem onP_some {v : Value} {K : Addr → Prop} (h : onP v K) : ∃ a, v = .pointer (some a) ∧ K a := by
  unfold onP at h
  split at h
  · exact ⟨_, rfl, h⟩
  · exact h.elim
  · exact h.elim
theorem onS_some {v : Value} {K : Option Addr → Nat → Nat → Prop} (h : onS v K) : ∃ a n c, v = .slice a n c ∧ K a n c := by
  unfold onS at h
  split at h
  · exact ⟨_, _, _, rfl, h⟩
  · exact h.elim
theorem onI_some {v : Value} {K : Int → Prop} (h : onI v K) : ∃ kd n, v = .int kd n ∧ K n := by
  unfold onI at h
  split at h
  · exact ⟨_, _, rfl, h⟩
  · exact h.elim
theorem onI64_some {v : Value} {K : Int → Prop} (h : onI64 v K) : ∃ n, v = .int .i64 n ∧ K n := by
  unfold onI64 at h
  split at h
  · exact ⟨_, rfl, h⟩
  · exact h.elim

/-! ### Writing -/
theorem St.with {ws : WS} {s : PS} (h : St ws s) (c : List Value) (e st : Nat) : St ⟨upd ws.h ws.n (some ⟨c, e, st⟩), ws.n + 1, addW ws.w ws.n⟩ (s.with c e st) :=
  ⟨by show hv (putH s.next _ s.heap) = _; rw [hv_put, h.h, h.n], by show s.next + 1 = _; rw [h.n], fun b hb => by
    rcases (inM_lor _ _ b).1 hb with hb | hb
    · exact .inl (h.w b hb)
    · exact .inr (by rw [(inM_bit_iff _ _).1 hb, h.n])⟩
theorem splice_of : ∀ (l : List Value) (o : Nat) (c : List Value), o + c.length ≤ l.length → splice l o c = some (ov l o c)
  | [], o, c, h => by
    simp only [List.length_nil] at h
    have h1 : o = 0 := by omega
    have h2 : c = [] := List.length_eq_zero_iff.1 (by omega)
    subst h1; subst h2; rfl
  | x :: t, o + 1, c, h => by
    have ih := splice_of t o c (by simp only [List.length_cons] at h; omega)
    show Option.rec (motive := fun _ => Option (List Value)) none (fun t => some (x :: t)) (splice t o c) = _
    rw [ih]
    show some (x :: ov t o c) = _
    unfold ov
    rw [show o + 1 + c.length = (o + c.length) + 1 by omega]
    simp
  | x :: t, 0, [], h => rfl
  | x :: t, 0, u :: c, h => by
    have ih := splice_of t 0 c (by simp only [List.length_cons] at h; omega)
    show Option.rec (motive := fun _ => Option (List Value)) none (fun t => some (u :: t)) (splice t 0 c) = _
    rw [ih]
    show some (u :: ov t 0 c) = _
    unfold ov
    simp
theorem put_comes {ws : WS} {s : PS} (hs : St ws s) {b o : Nat} {pb : PB} {c : List Value} (hb : ws.h b = some pb) (ho : o + c.length ≤ pb.cells.length) (h1 : ∀ v ∈ c, one v = true) :
    ∃ s', (∀ (γ : Type) (no : γ) (k : PS → γ), pPut no s (here b o) c k = k s') ∧ St ⟨upd ws.h b (some ⟨ov pb.cells o c, pb.elem, pb.stride⟩), ws.n, addW ws.w b⟩ s' := by
  refine ⟨⟨putH b (some ⟨ov pb.cells o c, pb.elem, pb.stride⟩) s.heap, s.next, s.rd, Nat.lor s.wr (bit b)⟩, fun γ no k => ?_, ?_, hs.n, fun x hx => ?_⟩
  · show Option.rec (motive := fun _ => γ) no _ (Vm.getH b s.heap) = _
    rw [hs.getH, hb]
    show (bif ones c then Option.rec (motive := fun _ => γ) no _ (splice pb.cells o c) else no) = _
    rw [(ones_eq c).2 h1, splice_of _ _ _ ho]
    exact write_eq _ _ _ _ _
  · show hv (putH b _ s.heap) = _
    rw [hv_put, hs.h]
  · rcases (inM_lor _ _ x).1 hx with hx | hx
    · exact .inl (hs.w x hx)
    · exact .inr ((inM_bit_iff _ _).1 hx)

/-! ### Quiet computations -/
theorem calm_bnd {α β : Type} (m : Sem α) (f : α → Sem β) : calm P (m >>= f) = (calm P m).bind fun a => calm P (f a) := by
  show calm P (Sem.bind m f) = _
  induction m with
  | pure a => rfl
  | program k ih => exact ih P
  | mark m k ih => exact ih
  | _ => rfl
theorem calm_value {m : Sem Value} {v : Value} (h : calm P m = some v) : calm P (do pure (Next.value (← m)) : Sem Next) = some (.value v) := by
  rw [calm_bnd, h]; rfl
theorem quiet_comes {o : Oper} {fr : Fr} {s : PS} {v : Value} (hp : ∀ x ∈ o.op.operands, plain (opd x fr) = true) (hc : calm P (execOp (fun x => opd x fr) o) = some (.value v)) (hv : plain v = true) (γ : Type) (no : γ) (k : Value → PS → γ) :
    pQuiet no P o fr s k = k v s := by
  unfold pQuiet
  have : (o.op.operands.toList.all fun x => plain (opd x fr)) = true := List.all_eq_true.2 fun x hx => hp x (by simpa using hx)
  rw [this, hc]
  simp [hv]
end
end Go.Proofs.YtoimffkejoeadaaGreatDoor.Vm
