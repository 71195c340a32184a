/- The machine of our own: what an operation answers, the real operation answers. Part 4: numbers, nil, len, append, copy. -/
import Derived.Test.YtoimffkejoeadaaGreatDoorVm7
namespace Go.Proofs.YtoimffkejoeadaaGreatDoor.Vm
open Go Go.RowKit
set_option linter.unusedVariables false
set_option linter.unusedSimpArgs false

section
variable {P : Program} {W0 : World} {E : Addr → Option Value} {o : Oper} {fr : Fr} {s : PS}

theorem wr64_nat (m : Nat) : wr64 (.ofNat m) = bif Nat.blt m 9223372036854775808 then .ofNat m else IntKind.i64.wrap (.ofNat m) := rfl
theorem wr64_neg (m : Nat) : wr64 (.negSucc m) = bif Nat.blt m 9223372036854775808 then .negSucc m else IntKind.i64.wrap (.negSucc m) := rfl
theorem wrap_small (n : Int) (h1 : -9223372036854775808 ≤ n) (h2 : n < 9223372036854775808) : IntKind.i64.wrap n = n := by rw [IntKind.wrap_i64]; omega
theorem wr64_eq (n : Int) : wr64 n = IntKind.i64.wrap n := by
  cases n with
  | ofNat m =>
    rw [wr64_nat]
    generalize hb : Nat.blt m 9223372036854775808 = b
    cases b with
    | false => exact cond_false _ _
    | true =>
      have := blt_lt hb
      rw [cond_true]
      exact (wrap_small _ (by simp only [Int.ofNat_eq_natCast]; omega) (by simp only [Int.ofNat_eq_natCast]; omega)).symm
  | negSucc m =>
    rw [wr64_neg]
    generalize hb : Nat.blt m 9223372036854775808 = b
    cases b with
    | false => exact cond_false _ _
    | true =>
      have := blt_lt hb
      rw [cond_true]
      exact (wrap_small _ (by rw [Int.negSucc_eq]; omega) (by rw [Int.negSucc_eq]; omega)).symm
theorem blt_eq (m n : Nat) : Nat.blt m n = decide (m < n) := by
  cases h : Nat.blt m n with
  | true => simp [blt_lt h]
  | false => have := blt_ge h; simp; omega
theorem beq_eq' (m n : Nat) : Nat.beq m n = decide (m = n) := by
  cases h : Nat.beq m n with
  | true => simp [Nat.eq_of_beq_eq_true h]
  | false => have := Nat.ne_of_beq_eq_false h; simp [this]
theorem iLt_eq (a b : Int) : iLt a b = decide (a < b) := by
  cases a with
  | ofNat a =>
    cases b with
    | ofNat b => simp only [iLt, blt_eq, Int.ofNat_eq_natCast]; apply decide_eq_decide.2; omega
    | negSucc b => simp only [iLt]; symm; simp only [decide_eq_false_iff_not, Int.ofNat_eq_natCast]; omega
  | negSucc a =>
    cases b with
    | ofNat b => simp only [iLt]; symm; simp only [decide_eq_true_eq, Int.ofNat_eq_natCast]; omega
    | negSucc b => simp only [iLt, blt_eq]; apply decide_eq_decide.2; omega
theorem iEq_eq (a b : Int) : iEq a b = decide (a = b) := by
  cases a with
  | ofNat a =>
    cases b with
    | ofNat b => simp only [iEq, beq_eq', Int.ofNat_eq_natCast]; apply decide_eq_decide.2; omega
    | negSucc b => simp only [iEq]; symm; simp only [decide_eq_false_iff_not, Int.ofNat_eq_natCast]; omega
  | negSucc a =>
    cases b with
    | ofNat b => simp only [iEq]; symm; simp only [decide_eq_false_iff_not, Int.ofNat_eq_natCast]; omega
    | negSucc b => simp only [iEq, beq_eq']; apply decide_eq_decide.2; omega
theorem iAdd_eq (a b : Int) : iAdd a b = a + b := by cases a <;> cases b <;> rfl

theorem fast_ok {op : BinOp} {f : Int → Int → Value} (h : fast op = some f) (t : TypeId) (a b : Int) : atom (f a b) = true ∧ binOp op t (.int .i64 a) (.int .i64 b) = pure (f a b) := by
  cases op <;> simp only [fast] at h <;> first | (cases h; done) | (injection h with h; subst h)
  all_goals
    refine ⟨rfl, ?_⟩
    simp [binOp, Op.intArith, Op.intCmp, wr64_eq, iAdd_eq, iLt_eq, iEq_eq, Int.not_lt]
    try (first | rfl | (congr 2; rw [← decide_not]; exact decide_eq_decide.2 (by omega)))

theorem equal_succ (t : TypeId) (x y : Value) : Op.equal t x y = Op.equalIn (9999 + 1) t x y := rfl
/-- What two values are, one of which is nil. -/
theorem nilCmp_ok {ι : Nat → Option Info} {t : TypeId} {d : TypeDesc} {x y x' y' : Value} {b : Bool} (hu : P.underlying t = some d) (h : nilCmp d x y = some b) (hx : VR ι x x') (hy : VR ι y y') (op : BinOp) (X Y : Operand) (neg : Bool)
    (hop : op = if neg then .neq else .eql) (W : World) : (do eqGuard op t X Y x' y'; binOp op t x' y' : Sem Value).run P W = .ok (.bool (if neg then !b else b)) W := by
  have key : ∀ b, (Op.equal t x' y').run P W = .ok b W → (∀ op, op = .eql ∨ op = .neq → eqGuard op t X Y x' y' = pure ()) → (binOp .eql t x' y' = do pure (.bool (← Op.equal t x' y'))) →
      (binOp .neq t x' y' = do pure (.bool (!(← Op.equal t x' y')))) → (do eqGuard op t X Y x' y'; binOp op t x' y' : Sem Value).run P W = .ok (.bool (if neg then !b else b)) W := by
    intro b hb hg h1 h2
    subst hop
    cases neg with
    | true => simp [hg .neq (.inr rfl), h2, hb]
    | false => simp [hg .eql (.inl rfl), h1, hb]
  unfold nilCmp at h
  split at h
  · injection h with h; subst h
    obtain ⟨a', rfl, _⟩ := VR.of_ptr hx
    have hy := VR.atom_eq rfl hy; subst hy
    exact key _ (by rw [equal_succ, Op.equalIn]; simp [run_underlying hu]) (fun _ _ => eqGuard_at_pointer ..) (by simp [binOp]) (by simp [binOp])
  · injection h with h; subst h
    obtain ⟨a', rfl, _⟩ := VR.of_ptr hy
    have hx := VR.atom_eq rfl hx; subst hx
    exact key _ (by rw [equal_succ, Op.equalIn]; simp [run_underlying hu]) (fun _ _ => eqGuard_at_pointer ..) (by simp [binOp]) (by simp [binOp])
  · injection h with h; subst h
    have hy := VR.atom_eq rfl hy; subst hy
    have : ∃ a n c, x' = .slice (some a) n c := by
      rcases hx.of_slc with ⟨_, h2⟩ | ⟨_, _, _, _, _, _, h2, _⟩ <;> exact ⟨_, _, _, h2⟩
    obtain ⟨a, n, c, rfl⟩ := this
    exact key _ (by rw [equal_succ, Op.equalIn]; simp [run_underlying hu]) (fun _ _ => eqGuard_at_slice ..) (by simp [binOp]) (by simp [binOp])
  · injection h with h; subst h
    have hx := VR.atom_eq rfl hx; subst hx
    have : ∃ a n c, y' = .slice (some a) n c := by
      rcases hy.of_slc with ⟨_, h2⟩ | ⟨_, _, _, _, _, _, h2, _⟩ <;> exact ⟨_, _, _, h2⟩
    obtain ⟨a, n, c, rfl⟩ := this
    exact key _ (by rw [equal_succ, Op.equalIn]; simp [run_underlying hu]) (fun _ _ => eqGuard_at_slice ..) (by simp [binOp]) (by simp [binOp])
  · injection h with h; subst h
    have hy := VR.atom_eq rfl hy; subst hy
    have : ∃ f a c, x' = .func f a c := by
      cases hx with
      | atom h => exact ⟨_, _, _, rfl⟩
      | func _ _ _ _ => exact ⟨_, _, _, rfl⟩
    obtain ⟨f, a, c, rfl⟩ := this
    exact key _ (by rw [equal_succ, Op.equalIn]; simp [run_underlying hu]) (fun _ _ => eqGuard_at_func ..) (by simp [binOp]) (by simp [binOp])
  · injection h with h; subst h
    have hx := VR.atom_eq rfl hx; subst hx
    have : ∃ f a c, y' = .func f a c := by
      cases hy with
      | atom h => exact ⟨_, _, _, rfl⟩
      | func _ _ _ _ => exact ⟨_, _, _, rfl⟩
    obtain ⟨f, a, c, rfl⟩ := this
    exact key _ (by rw [equal_succ, Op.equalIn]; simp [run_underlying hu]) (fun _ _ => eqGuard_at_nilFunc ..) (by simp [binOp]) (by simp [binOp])
  · injection h with h; subst h
    have hy := VR.atom_eq rfl hy; subst hy
    obtain ⟨w, rfl, _⟩ := hx.of_iface
    exact key _ (by rw [equal_succ, Op.equalIn]; simp [run_underlying hu]) (fun _ _ => eqGuard_at_iface ..) (by simp [binOp]) (by simp [binOp])
  · injection h with h; subst h
    have hx := VR.atom_eq rfl hx; subst hx
    obtain ⟨w, rfl, _⟩ := hy.of_iface
    exact key _ (by rw [equal_succ, Op.equalIn]; simp [run_underlying hu]) (fun _ _ => eqGuard_nil_iface ..) (by simp [binOp]) (by simp [binOp])
  · cases h

theorem cmp_ok {γ : Type} {no : γ} {k : Value → PS → γ} {op : BinOp} {t : TypeId} {x y : Operand} {sh : TypeId} {neg : Bool} (ho : o.op = .binOp op t x y sh) (hop : op = if neg then .neq else .eql) :
    Ans no k (Ok P W0 o fr s) (pCmp no P t neg (opd x fr) (opd y fr) s k) := by
  unfold pCmp
  split
  · rename_i d hu
    split
    · rename_i b hb
      rw [fB_eq]
      refine Ans.yes (Ok.still fun ι ρ hρ => ⟨.bool (if neg then !b else b), ?_, fun W => ?_⟩)
      · cases neg <;> exact .atom rfl
      · have hx := hρ x (by simp [ho, Op.operands])
        have hy := hρ y (by simp [ho, Op.operands])
        simp only [execOp, ho]
        exact run_v (nilCmp_ok hu hb hx hy op x y neg hop W)
    · exact .not
  · exact .not
theorem slow_ok {γ : Type} {no : γ} {k : Value → PS → γ} {op : BinOp} {t : TypeId} {x y : Operand} {sh : TypeId} (ho : o.op = .binOp op t x y sh) : Ans no k (Ok P W0 o fr s) (pSlow no P o op t x y fr s k) := by
  unfold pSlow
  split
  · exact quiet_ok (by simp [ho]) (fun _ h => h) (cmp_ok (neg := false) ho rfl)
  · exact quiet_ok (by simp [ho]) (fun _ h => h) (cmp_ok (neg := true) ho rfl)
  · exact quiet_ok' (by simp [ho])
theorem bin_ok {γ : Type} {no : γ} {k : Value → PS → γ} {op : BinOp} {t : TypeId} {x y : Operand} {sh : TypeId} (ho : o.op = .binOp op t x y sh) : Ans no k (Ok P W0 o fr s) (pBin no P o op t x y fr s k) := by
  unfold pBin
  cases hf : fast op with
  | none => exact slow_ok ho
  | some f =>
    simp only []
    cases ha : vI (opd x fr) with
    | none => exact slow_ok ho
    | some a =>
      cases hb : vI (opd y fr) with
      | none => exact slow_ok ho
      | some b =>
        simp only [f0_eq]
        obtain ⟨h1, h2⟩ := fast_ok hf t a b
        refine Ans.yes (Ok.still fun ι ρ hρ => ⟨f a b, .atom h1, fun W => ?_⟩)
        have hx := hρ x (by simp [ho, Op.operands])
        have hy := hρ y (by simp [ho, Op.operands])
        rw [vI_eq ha] at hx
        rw [vI_eq hb] at hy
        simp only [execOp, ho, hx.int, hy.int]
        exact run_v (by simp [eqGuard_at_int, h2])

theorem not_ok {γ : Type} {no : γ} {k : Value → PS → γ} {t : TypeId} {x : Operand} (ho : o.op = .unOp .not t x) :
    Ans no k (Ok P W0 o fr s) (Option.rec (motive := fun _ => γ) no (fun b => Bool.rec (motive := fun _ => γ) (k (.bool true) s) (k (.bool false) s) b) (vB (opd x fr))) := by
  refine Ans.opt fun b hb => ?_
  have hb := vB_eq hb
  have : Ok P W0 o fr s (.bool !b) s := Ok.still fun ι ρ hρ => ⟨.bool !b, .atom rfl, fun W => by
    have hx := hρ x (by simp [ho, Op.operands])
    rw [hb] at hx
    simp only [execOp, ho, hx.bool]
    exact run_v rfl⟩
  cases b <;> exact Ans.yes this
theorem nilCheck_ok {γ : Type} {no : γ} {k : Value → PS → γ} {x : Operand} (ho : o.op = .nilCheck x) :
    Ans no k (Ok P W0 o fr s) (Option.rec (motive := fun _ => γ) (pQuiet no P o fr s k) (fun a => k (.pointer (some a)) s) (vP (opd x fr))) := by
  cases ha : vP (opd x fr) with
  | none => exact quiet_ok' (by simp [ho])
  | some a =>
    refine Ans.yes (Ok.still fun ι ρ hρ => ?_)
    have hx := hρ x (by simp [ho, Op.operands])
    rw [vP_eq ha] at hx
    obtain ⟨a', ha', har⟩ := VR.of_ptr hx
    refine ⟨_, har.ptr, fun W => ?_⟩
    simp only [execOp, ho, ha']
    rfl
end
end Go.Proofs.YtoimffkejoeadaaGreatDoor.Vm
