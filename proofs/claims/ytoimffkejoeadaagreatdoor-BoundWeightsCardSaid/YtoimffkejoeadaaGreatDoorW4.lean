/- The logic over the machine: what it says of any operation, the machine does. -/
import Derived.Test.YtoimffkejoeadaaGreatDoorW3
namespace Go.Proofs.YtoimffkejoeadaaGreatDoor.Vm
open Go Go.RowKit
set_option linter.unusedVariables false
set_option linter.unusedSimpArgs false

/-- What an operation comes to, whatever is done with it. -/
def Com (P : Program) (E : Addr → Option Value) (mt : List Meth) (o : Oper) (c : Caller) (fr : Fr) (s : PS) (v : Value) (s' : PS) : Prop := ∀ (γ : Type) (no : γ) (k : Value → PS → γ), pop no P E mt o c fr s k = k v s'
section
variable {P : Program} {E : Addr → Option Value} {mt : List Meth}

/-! ### Whole numbers -/
theorem guard_int (op : BinOp) (t : TypeId) (X Y : Operand) (kd kd' : IntKind) (a b : Int) : calm P (eqGuard op t X Y (.int kd a) (.int kd' b)) = some () := by
  cases op <;> rfl
theorem wint_ok {op : BinOp} {kd kd' : IntKind} {a b : Int} {K : Value → Prop} (hk : (isShift op || decide (kd = kd')) = true) (h : wint op kd a b K) (t : TypeId) :
    ∃ v, K v ∧ Vm.atom v = true ∧ binOp op t (.int kd a) (.int kd' b) = pure v := by
  have hk' : isShift op = false → kd = kd' := fun e => by rw [e] at hk; simpa using hk
  cases op with
  | shl =>
    obtain ⟨h1, h2⟩ := h
    refine ⟨_, h2, rfl, ?_⟩
    simp [binOp, Op.shift, Int.not_lt.2 h1]
  | shr =>
    obtain ⟨h1, h2⟩ := h
    refine ⟨_, h2, rfl, ?_⟩
    simp [binOp, Op.shift, Int.not_lt.2 h1]
  | quo =>
    obtain ⟨h1, h2⟩ := h
    have := hk' rfl; subst this
    refine ⟨_, h2, rfl, ?_⟩
    simp [binOp, Op.intDiv, h1]
  | rem =>
    obtain ⟨h1, h2⟩ := h
    have := hk' rfl; subst this
    refine ⟨_, h2, rfl, ?_⟩
    simp [binOp, Op.intDiv, h1]
  | _ =>
    have := hk' rfl; subst this
    refine ⟨_, h, rfl, ?_⟩
    simp [binOp, Op.intArith, Op.intBits, Op.intCmp, ibits]
theorem quiet_bin {o : Oper} {op : BinOp} {t sh : TypeId} {x y : Operand} (ho : o.op = .binOp op t x y sh) {fr : Fr} {s : PS} {v : Value} (hx : plain (opd x fr) = true) (hy : plain (opd y fr) = true)
    (hc : calm P (do eqGuard op t x y (opd x fr) (opd y fr); binOp op t (opd x fr) (opd y fr)) = some v) (hv : plain v = true) (γ : Type) (no : γ) (k : Value → PS → γ) : pQuiet no P o fr s k = k v s := by
  refine quiet_comes (fun z hz => ?_) ?_ hv γ no k
  · simp only [ho, Op.operands] at hz
    simp at hz
    rcases hz with rfl | rfl
    · exact hx
    · exact hy
  · simp only [execOp, ho]
    exact calm_value hc
theorem slow_quiet {o : Oper} {op : BinOp} {t : TypeId} {x y : Operand} {fr : Fr} {s : PS} {v : Value} (h : ∀ (γ : Type) (no : γ) (k : Value → PS → γ), pQuiet no P o fr s k = k v s) (γ : Type) (no : γ) (k : Value → PS → γ) : pSlow no P o op t x y fr s k = k v s := by
  unfold pSlow
  cases op <;> exact h γ _ k
theorem bin_comes {o : Oper} {op : BinOp} {t sh : TypeId} {x y : Operand} (ho : o.op = .binOp op t x y sh) {fr : Fr} {s : PS} {K : Value → Prop} (h : wbin P op t x y (opd x fr) (opd y fr) K) :
    ∃ v, (∀ (γ : Type) (no : γ) (k : Value → PS → γ), pBin no P o op t x y fr s k = k v s) ∧ K v := by
  -- where the fast road is not taken
  have slow : ∀ v, (∀ a b, opd x fr = .int .i64 a → opd y fr = .int .i64 b → binOp op t (.int .i64 a) (.int .i64 b) = pure v) → (∀ (γ : Type) (no : γ) (k : Value → PS → γ), pSlow no P o op t x y fr s k = k v s) → ∀ (γ : Type) (no : γ) (k : Value → PS → γ), pBin no P o op t x y fr s k = k v s := fun v hi hs γ no k => by
    unfold pBin
    cases hf : fast op with
    | none => exact hs γ no k
    | some f =>
      simp only
      cases hx : vI (opd x fr) with
      | none => exact hs γ no k
      | some a =>
        simp only
        cases hy : vI (opd y fr) with
        | none => exact hs γ no k
        | some b =>
          simp only [f0_eq]
          have h1 := hi a b (vI_eq hx) (vI_eq hy)
          rw [(fast_ok hf t a b).2] at h1
          have h2 : (Sem.pure (f a b) : Sem Value) = Sem.pure v := h1
          injection h2 with h2
          rw [h2]
  have quietly : ∀ v, plain (opd x fr) = true → plain (opd y fr) = true → calm P (do eqGuard op t x y (opd x fr) (opd y fr); binOp op t (opd x fr) (opd y fr)) = some v → plain v = true →
      (∀ a b, opd x fr = .int .i64 a → opd y fr = .int .i64 b → binOp op t (.int .i64 a) (.int .i64 b) = pure v) → ∀ (γ : Type) (no : γ) (k : Value → PS → γ), pBin no P o op t x y fr s k = k v s := fun v hx hy hc hv hi =>
    slow v hi (slow_quiet (quiet_bin ho hx hy hc hv))
  unfold wbin at h
  split at h
  · rename_i kd a kd' b hx hy
    cases hk : (isShift op || decide (kd = kd')) with
    | false => rw [hk] at h; exact h.elim
    | true =>
      rw [hk] at h
      obtain ⟨v, h1, h2, h3⟩ := wint_ok hk h t
      have hpv : plain v = true := by cases v <;> first | exact h2 | (simp [Vm.atom] at h2)
      refine ⟨v, quietly v (by rw [hx]; rfl) (by rw [hy]; rfl) ?_ hpv (fun a' b' e1 e2 => ?_), h1⟩
      · rw [hx, hy, calm_bnd, guard_int]
        show calm P (binOp op t (.int kd a) (.int kd' b)) = some v
        rw [h3]; rfl
      · rw [hx] at e1; rw [hy] at e2
        injection e1 with e3 e4
        injection e2 with e5 e6
        subst e3; subst e4; subst e5; subst e6
        exact h3
  · rename_i hno
    cases hp : (plain (opd x fr) && plain (opd y fr)) with
    | true =>
      rw [hp] at h
      simp only [cond_true] at h
      rw [Bool.and_eq_true] at hp
      unfold onC at h
      split at h
      · rename_i v hc
        cases hv : plain v with
        | false => rw [hv] at h; exact h.elim
        | true =>
          rw [hv] at h
          exact ⟨v, quietly v hp.1 hp.2 hc hv (fun a b e1 e2 => absurd e2 (hno .i64 a .i64 b e1)), h⟩
      · exact h.elim
    | false =>
      rw [hp] at h
      simp only [cond_false] at h
      have nq : ∀ (γ : Type) (no : γ) (k : Value → PS → γ), pQuiet no P o fr s k = no := fun γ no k => by
        unfold pQuiet
        have : (o.op.operands.toList.all fun x => plain (opd x fr)) = false := by
          simp only [ho, Op.operands]
          rw [← hp]
          simp
        rw [this]; rfl
      split at h
      · rename_i d hu
        split at h
        · rename_i b hb
          refine ⟨.bool b, slow _ (fun a' b' e1 e2 => absurd e2 (hno .i64 a' .i64 b' e1)) (fun γ no k => ?_), h⟩
          show pQuiet (pCmp no P t false (opd x fr) (opd y fr) s k) P o fr s k = _
          rw [nq]
          unfold pCmp
          simp only [hu, hb]
          simp
        · exact h.elim
      · rename_i d hu
        split at h
        · rename_i b hb
          refine ⟨.bool (!b), slow _ (fun a' b' e1 e2 => absurd e2 (hno .i64 a' .i64 b' e1)) (fun γ no k => ?_), h⟩
          show pQuiet (pCmp no P t true (opd x fr) (opd y fr) s k) P o fr s k = _
          rw [nq]
          unfold pCmp
          simp only [hu, hb]
          simp
        · exact h.elim
      · exact h.elim

/-! ### Growing -/
theorem grow_comes {ws : WS} {s : PS} (hs : St ws s) {elem size bytes : Nat} {base : Option Addr} {ln cap n : Nat} {src : Value} {k : Option Addr → Nat → Nat → WS → Prop} (hb0 : bytes ≠ 0) (hz0 : size ≠ 0) (h : wgrow E ws elem size bytes base ln cap src n k)
    (hsrc : (∃ a c, src = .slice a n c) ∨ ∃ b, src = .string b ∧ b.size = n) :
    ∃ a l c s' ws', (∀ (γ : Type) (no : γ) (k' : Value → PS → γ), pFirst no E s size n src (fun new s => pGrow no E s elem size bytes base ln cap n new k') = k' (.slice a l c) s') ∧ St ws' s' ∧ k a l c ws' := by
  obtain ⟨new, h1, h2, h3, h4, h5⟩ := h
  -- the source is read
  have first : ∃ s1, (∀ (γ : Type) (no : γ) (k' : List Value → PS → γ), pFirst no E s size n src k' = k' new s1) ∧ St ws s1 := by
    rcases hsrc with ⟨a, c, rfl⟩ | ⟨b, rfl, hbn⟩
    · cases a with
      | none =>
        obtain ⟨e1, e2⟩ := h1
        subst e1
        exact ⟨s, fun γ no k' => rfl, hs⟩
      | some a =>
        obtain ⟨e1, e2, e3⟩ := h1
        obtain ⟨s1, g1, g2, _⟩ := cells_comes (E := E) hs e2 (.inr e3)
        rw [e1] at g1
        exact ⟨s1, g1, g2⟩
    · obtain ⟨e1, e2⟩ := h1
      subst e1
      refine ⟨s, fun γ no k' => ?_, hs⟩
      show fL _ _ = _
      rw [fL_eq]
      have : b.extract 0 n = b := by
        rw [← hbn]
        exact ByteArray.extract_zero_size
      rw [this]
  obtain ⟨s1, f1, f2⟩ := first
  have hc : (Nat.beq (len new) (n * size) && ones new && !Nat.beq bytes 0 && Nat.ble ((2 * (ln + n) + 1000) * bytes) 281474976710656 && !Nat.beq size 0) = true := by
    have a1 : Nat.beq (len new) (n * size) = true := by rw [len_eq, h2]; exact Nat.beq_refl _
    have a2 := (ones_eq new).2 h3
    have a3 : Nat.beq bytes 0 = false := by cases e : Nat.beq bytes 0 with | true => exact absurd (Nat.eq_of_beq_eq_true e) hb0 | false => rfl
    have a4 := Nat.ble_eq_true_of_le h4
    have a5 : Nat.beq size 0 = false := by cases e : Nat.beq size 0 with | true => exact absurd (Nat.eq_of_beq_eq_true e) hz0 | false => rfl
    rw [a1, a2, a3, a4, a5]; rfl
  have open' : ∀ (γ : Type) (no : γ) (k' : Value → PS → γ), pFirst no E s size n src (fun new s => pGrow no E s elem size bytes base ln cap n new k') = pGrow no E s1 elem size bytes base ln cap n new k' := fun γ no k' => f1 γ no _
  cases base with
  | none =>
    obtain ⟨e1, e2, e3, e4⟩ := h5
    subst e1; subst e2
    by_cases hn : n = 0
    · subst hn
      refine ⟨_, _, _, s1, ws, fun γ no k' => ?_, f2, e3 rfl⟩
      rw [open']
      unfold pGrow
      rw [hc]
      simp
    · refine ⟨_, _, _, _, _, fun γ no k' => ?_, f2.with new elem size, e4 hn⟩
      rw [open']
      unfold pGrow
      rw [hc]
      have : Nat.beq (0 + n) 0 = false := by
        cases e : Nat.beq (0 + n) 0 with
        | true => exact absurd (Nat.eq_of_beq_eq_true e) (by omega)
        | false => rfl
      simp only [cond_true, fN_eq, this, cond_false, Nat.beq_refl, Bool.and_self]
      rw [new_eq, f2.n, Nat.zero_add]
  | some a =>
    obtain ⟨b, o, pb, rfl, g1, g2, g3, g4, g5⟩ := h5
    have hcc : (Nat.beq pb.stride size && Nat.beq pb.elem elem) = true := by
      rw [g2, g3]; simp
    by_cases hn : ln + n ≤ cap
    · obtain ⟨q1, q2⟩ := g4 hn
      obtain ⟨s2, p1, p2⟩ := put_comes (o := o + ln * size) f2 g1 (by rw [h2]; exact q1) h3
      refine ⟨_, _, _, s2, _, fun γ no k' => ?_, p2, q2⟩
      rw [open']
      unfold pGrow
      rw [hc]
      simp only [cond_true, fN_eq]
      show onO no (Vm.getH b s1.heap) _ = _
      rw [f2.getH, g1]
      simp only [onO_some, hcc, cond_true, Nat.ble_eq_true_of_le hn]
      exact p1 γ no _
    · obtain ⟨q1, q2⟩ := g5 hn
      have hlen : ((pb.cells.drop o).take (ln * size)).length = ln * size := by
        rw [List.length_take, List.length_drop]; omega
      obtain ⟨s2, p1, p2, _⟩ := cells_comes (E := E) (a := here b o) (l := (pb.cells.drop o).take (ln * size)) f2 (fun j u hj => by
        show (match ws.h b with | some pb => pb.cells[o + j]? | none => none) = some u
        rw [g1]
        rw [List.getElem?_take] at hj
        split at hj
        · rw [List.getElem?_drop] at hj; exact hj
        · cases hj) (.inr (.inr ⟨pb, g1⟩))
      have hble : Nat.ble (ln + n) cap = false := by
        cases e : Nat.ble (ln + n) cap with
        | true => exact absurd (Nat.le_of_ble_eq_true e) hn
        | false => rfl
      rw [hlen] at p1
      have step : ∀ (γ : Type) (no : γ) (k' : Value → PS → γ), pGrow no E s1 elem size bytes (some (here b o)) ln cap n new k' = (bif Nat.beq (o + cap * size) (len pb.cells) then
              s2.kill b fun s => catK ((pb.cells.drop o).take (ln * size)) new fun l => s.new l elem size fun t => k' (.slice (some (here s.next 0)) (ln + n) (ln + n)) t
            else catK ((pb.cells.drop o).take (ln * size)) new fun l => s2.new l elem size fun t => k' (.slice (some (here s2.next 0)) (ln + n) (ln + n)) t) := fun γ no k' => by
        unfold pGrow
        rw [hc]
        simp only [cond_true, fN_eq]
        show onO no (Vm.getH b s1.heap) _ = _
        rw [f2.getH, g1]
        simp only [onO_some, hcc, cond_true, hble, cond_false]
        exact p1 γ no _
      cases hk : Nat.beq (o + cap * size) (len pb.cells) with
      | true =>
        have hq := q2 (upd ws.h b none) (fun c hc => upd_other _ _ _ _ hc) (.inl (upd_same _ _ _))
        have st3 : St ⟨upd ws.h b none, ws.n, addW ws.w b⟩ ⟨putH b none s2.heap, s2.next, s2.rd, Nat.lor s2.wr (bit b)⟩ :=
          ⟨by show hv (putH b none s2.heap) = _; rw [hv_put, p2.h], p2.n, fun x hx => by
            rcases (inM_lor _ _ x).1 hx with hx | hx
            · exact .inl (p2.w x hx)
            · exact .inr ((inM_bit_iff _ _).1 hx)⟩
        refine ⟨_, _, _, _, _, fun γ no k' => ?_, st3.with ((pb.cells.drop o).take (ln * size) ++ new) elem size, hq⟩
        rw [open', step, hk]
        simp only [cond_true, kill_eq, catK_eq, new_eq]
        show k' (.slice (some (here s2.next 0)) _ _) _ = _
        rw [p2.n]
      | false =>
        have hq := q2 ws.h (fun c hc => rfl) (.inr rfl)
        have st3 : St ⟨ws.h, ws.n, addW ws.w b⟩ s2 := ⟨p2.h, p2.n, fun x hx => .inl (p2.w x hx)⟩
        refine ⟨_, _, _, _, _, fun γ no k' => ?_, st3.with ((pb.cells.drop o).take (ln * size) ++ new) elem size, hq⟩
        rw [open', step, hk]
        simp only [cond_false, catK_eq, new_eq]
        rw [p2.n]
end
end Go.Proofs.YtoimffkejoeadaaGreatDoor.Vm
