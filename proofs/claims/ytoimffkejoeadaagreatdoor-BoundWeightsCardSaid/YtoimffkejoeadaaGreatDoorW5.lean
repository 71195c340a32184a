/- The logic over the machine: any operation. -/
import Derived.Test.YtoimffkejoeadaaGreatDoorW4
namespace Go.Proofs.YtoimffkejoeadaaGreatDoor.Vm
open Go Go.RowKit
set_option linter.unusedVariables false
set_option linter.unusedSimpArgs false

section
variable {P : Program} {E : Addr → Option Value} {mt : List Meth} {orc : FuncId → List Value → Option Value}
theorem pop_of1 {o : Oper} (h : ∀ c, o.op ≠ .call c) {γ : Type} (no : γ) (c : Caller) (fr : Fr) (s : PS) (k : Value → PS → γ) : pop no P E mt o c fr s k = pop1 no P E o fr s k := by
  unfold pop
  cases ho : o.op with
  | call cl => exact absurd ho (h cl)
  | _ => rfl
theorem Com.of1 {o : Oper} (h : ∀ c, o.op ≠ .call c) {c : Caller} {fr : Fr} {s : PS} {v : Value} {s' : PS} (hp : ∀ (γ : Type) (no : γ) (k : Value → PS → γ), pop1 no P E o fr s k = k v s') : Com P E mt o c fr s v s' :=
  fun γ no k => (pop_of1 h no c fr s k).trans (hp γ no k)

/-- An operation: what it comes to. -/
def OpOk (P : Program) (E : Addr → Option Value) (mt : List Meth) (orc : FuncId → List Value → Option Value) (o : Oper) (fr : Fr) (r : RS) (s : PS) (k : KV) : Prop :=
  ∃ N v s' ws', (∀ n, N ≤ n → Com P E mt o (runCall P E mt orc n) fr s v s') ∧ St ws' s' ∧ k v ws' ∧ RdIn r s s'
theorem OpOk.one {o : Oper} (h : ∀ c, o.op ≠ .call c) {fr : Fr} {r : RS} {s s' : PS} {k : KV} {v : Value} {ws' : WS} (hp : ∀ (γ : Type) (no : γ) (k : Value → PS → γ), pop1 no P E o fr s k = k v s') (h1 : St ws' s') (h2 : k v ws') (h3 : RdIn r s s') : OpOk P E mt orc o fr r s k :=
  ⟨0, v, s', ws', fun n _ => Com.of1 h hp, h1, h2, h3⟩

theorem pop1_at {o : Oper} {p : Op} (ho : o.op = p) {γ : Type} (no : γ) (fr : Fr) (s : PS) (k : Value → PS → γ) : pop1 no P E o fr s k = pop1 no P E { o with op := p } fr s k := by
  obtain ⟨d, op, ty, ps, af, g⟩ := o
  simp only at ho
  subst ho
  rfl
theorem opds_eq' (l : List Operand) (fr : Fr) : opds l fr = l.map fun x => opd x fr := by
  induction l with
  | nil => rfl
  | cons x t ih => show opd x fr :: opds t fr = _; rw [ih]; rfl
theorem opds_wopds {fr : Fr} {f : WF} {l : List Operand} (h : ∀ x ∈ l, opd x fr = wopd x f) : opds l fr = wopds l f := by
  rw [opds_eq']
  exact List.map_congr_left h

theorem enter_comes {ws : WS} {s : PS} (hs : St ws s) {g : FuncId} {args : List Value} {k : KV} (h : wenter P (Wc P E mt orc) g args ws k) :
    enters P g = true ∧ ∃ N v s' ws', (∀ n, N ≤ n → runCall P E mt orc n g args s = .ok v s') ∧ St ws' s' ∧ k v ws' := by
  unfold wenter at h
  cases hf : P.funcs[g]? with
  | none => rw [hf] at h; exact h.elim
  | some fn =>
    rw [hf] at h
    simp only at h
    cases he : enters P g with
    | false => rw [he] at h; exact h.elim
    | true =>
      rw [he] at h
      obtain ⟨N, v, s', ws', h1, h2, h3⟩ := h s hs
      refine ⟨rfl, N, v, s', ws', fun n hn => ?_, h2, wres_eq h3⟩
      rcases run_mono (P := P) (E := E) (mt := mt) (orc := orc) hn g args s with e | e
      · rw [h1] at e; cases e
      · rw [← e, h1]

theorem call_comes {o : Oper} {c : Call} (ho : o.op = .call c) {fr : Fr} {f : WF} {ws : WS} {s : PS} {k : KV} (hops : ∀ x ∈ o.op.operands, opd x fr = wopd x f) (hs : St ws s) (h : wcall P E (Wc P E mt orc) c f ws k) :
    OpOk P E mt orc o fr .all s k := by
  have hargs : ∀ x ∈ c.args.toList, opd x fr = wopd x f := fun x hx => hops x (by simp only [ho, Op.operands, Call.operands]; exact Array.mem_append.2 (.inr (by simpa using hx)))
  have hp : ∀ {γ : Type} (no : γ) (cl : Caller) (k' : Value → PS → γ), pop no P E mt o cl fr s k' = pCallOp no P E mt o c cl fr s k' := fun no cl k' => by
    unfold pop
    rw [ho]
  have quiet : ∀ {b : Builtin} {v : Value}, c.callee = .builtin b → (∀ x ∈ c.args.toList, plain (opd x fr) = true) → (∀ cs, calm P (builtin b c.argTypes o.type cs (c.args.map fun x => opd x fr)) = some (.value v)) → plain v = true →
      ∀ (γ : Type) (no : γ) (k' : Value → PS → γ), pQuiet no P o fr s k' = k' v s := fun {b v} hc hpl hv hpv γ no k' => by
    refine quiet_comes (fun x hx => ?_) ?_ hpv γ no k'
    · simp only [ho, Op.operands, Call.operands, hc] at hx
      exact hpl x (by simpa using hx)
    · simp only [execOp, ho, resolve, hc]
      exact hv _
  unfold wcall at h
  cases hc : c.callee with
  | value x =>
    rw [hc] at h
    simp only at h
    have hx := hops x (callee_mem ho hc)
    split at h
    · rename_i g first cap hfn
      obtain ⟨he, N, v, s', ws', h1, h2, h3⟩ := enter_comes hs h
      refine ⟨N, v, s', ws', fun n hn γ no k' => ?_, h2, h3, trivial⟩
      rw [hp]
      unfold pCallOp
      simp only [hc]
      have other : (match opd x fr with
          | .func (.func g) first cap => go1 no P (runCall P E mt orc n) g (cat (cat first.toList (opds c.args.toList fr)) cap.toList) s k'
          | _ => no) = k' v s' := by
        rw [hx, hfn]
        simp only [cat_eq, opds_wopds hargs]
        unfold go1
        rw [he, cond_true, h1 n hn]
      cases x with
      | func g' =>
        have hfn' : Value.func (.func g') #[] #[] = Value.func (.func g) first cap := hfn
        injection hfn' with e1 e2 e3
        injection e1 with e1
        subst e1; subst e2; subst e3
        simp only [he, cond_true, opds_wopds hargs]
        have h1' := h1 n hn
        simp only [List.nil_append, List.append_nil] at h1'
        rw [h1']
      | tmp _ => exact other
      | const _ => exact other
      | global _ => exact other
    · exact h.elim
  | invoke r name => rw [hc] at h; exact h.elim
  | builtin b =>
    rw [hc] at h
    simp only at h
    split at h
    · -- len
      rename_i x hax
      have hx : opd x fr = wopd x f := hargs x (by rw [hax]; simp)
      have hval : (c.args.map fun x => opd x fr) = #[opd x fr] := by
        apply Array.ext'
        simp [hax]
      split at h
      · rename_i e a n cp ht hv
        refine ⟨0, _, s, ws, fun n' _ γ no k' => ?_, hs, h, trivial⟩
        rw [hp]
        unfold pCallOp
        simp only [hc, quietly, ht, hax, hx, hv]
        show f0 _ _ = _
        rw [f0_eq]
        rfl
      · rename_i b ht hv
        refine ⟨0, _, s, ws, fun n' _ γ no k' => ?_, hs, h, trivial⟩
        rw [hp]
        unfold pCallOp
        simp only [hc, quietly, ht]
        refine quiet hc (fun y hy => ?_) (fun cs => ?_) rfl γ no k'
        · rw [hax] at hy
          simp at hy
          subst hy
          rw [hx, hv]; rfl
        · rw [hval, hx, hv]
          obtain ⟨t, ht1, ht2⟩ := Option.bind_eq_some_iff.1 ht
          have hn : c.argTypes[0]? = some t := ht1
          simp only [builtin]
          refine calm_value ?_
          simp only [Builtin.len_, hn]
          show calm P (underlying t >>= _) = _
          rw [calm_bnd]
          rw [underlying_calm ht2]
          rfl
      · exact h.elim
    · -- append
      rename_i x y hax
      have hx : opd x fr = wopd x f := hargs x (by rw [hax]; simp)
      have hy : opd y fr = wopd y f := hargs y (by rw [hax]; simp)
      split at h
      · rename_i st xt h0 h1
        split at h
        · rename_i elem xd hu0 hu1
          split at h
          · rename_i i hi
            cases hcc : (zOk i && notInt xd && !Nat.beq i.bytes 0 && !Nat.beq i.size 0) with
            | false => rw [hcc] at h; exact h.elim
            | true =>
              rw [hcc] at h
              simp only [Bool.and_eq_true, Bool.not_eq_true'] at hcc
              obtain ⟨⟨⟨hz, hxd⟩, hb0⟩, hs0⟩ := hcc
              have hb0 := Nat.ne_of_beq_eq_false hb0
              have hs0 := Nat.ne_of_beq_eq_false hs0
              obtain ⟨base, ln, cap, hv, h⟩ := onS_some (show onS _ _ from h)
              have main : ∀ {src : Value} {n : Nat}, wopd y f = src → pLen src = some n → wgrow E ws elem i.size i.bytes base ln cap src n (fun a n c s => k (.slice a n c) s) → ((∃ a c, src = .slice a n c) ∨ ∃ b, src = .string b ∧ b.size = n) → OpOk P E mt orc o fr .all s k := fun {src n} hsv hpl hg hss => by
                obtain ⟨av, lv, cv, s', ws', g1, g2, g3⟩ := grow_comes hs hb0 hs0 hg hss
                refine ⟨0, .slice av lv cv, s', ws', fun n' _ γ no k' => ?_, g2, g3, trivial⟩
                rw [hp]
                unfold pCallOp
                simp only [hc, quietly]
                unfold pAppend
                simp only [h0, h1, hax, hu0, hu1, hi]
                have hpl' : pLen (opd y fr) = some n := by rw [hy, hsv]; exact hpl
                have hvx : vS (opd x fr) = .sl base ln cap := by rw [hx, hv]; rfl
                have hyv : opd y fr = src := hy.trans hsv
                show (bif zOk i then _ else _ : Fr → PS → (Value → PS → γ) → γ) fr s k' = _
                rw [hz]
                simp only [cond_true]
                cases xd with
                | int _ => cases hxd
                | _ =>
                  simp only [hvx, hpl']
                  rw [hyv]
                  exact g1 γ no k'
              split at h
              · rename_i a n cp hsv
                exact main hsv rfl h (.inl ⟨a, cp, rfl⟩)
              · rename_i b hsv
                exact main hsv rfl h (.inr ⟨b, rfl, rfl⟩)
              · exact h.elim
          · exact h.elim
        · exact h.elim
      · exact h.elim
    · -- min
      rename_i x y hax
      have hx : opd x fr = wopd x f := hargs x (by rw [hax]; simp)
      have hy : opd y fr = wopd y f := hargs y (by rw [hax]; simp)
      have hval : (c.args.map fun x => opd x fr) = #[opd x fr, opd y fr] := by
        apply Array.ext'
        simp [hax]
      split at h
      · rename_i kd a kd' b hv hw
        refine ⟨0, _, s, ws, fun n' _ γ no k' => ?_, hs, h, trivial⟩
        rw [hp]
        unfold pCallOp
        simp only [hc, quietly]
        refine quiet hc (fun z hz => ?_) (fun cs => ?_) rfl γ no k'
        · rw [hax] at hz
          simp at hz
          rcases hz with rfl | rfl
          · rw [hx, hv]; rfl
          · rw [hy, hw]; rfl
        · rw [hval, hx, hy, hv, hw]
          rfl
      · exact h.elim
    · -- max
      rename_i x y hax
      have hx : opd x fr = wopd x f := hargs x (by rw [hax]; simp)
      have hy : opd y fr = wopd y f := hargs y (by rw [hax]; simp)
      have hval : (c.args.map fun x => opd x fr) = #[opd x fr, opd y fr] := by
        apply Array.ext'
        simp [hax]
      split at h
      · rename_i kd a kd' b hv hw
        refine ⟨0, _, s, ws, fun n' _ γ no k' => ?_, hs, h, trivial⟩
        rw [hp]
        unfold pCallOp
        simp only [hc, quietly]
        refine quiet hc (fun z hz => ?_) (fun cs => ?_) rfl γ no k'
        · rw [hax] at hz
          simp at hz
          rcases hz with rfl | rfl
          · rw [hx, hv]; rfl
          · rw [hy, hw]; rfl
        · rw [hval, hx, hy, hv, hw]
          rfl
      · exact h.elim
    · exact h.elim

theorem foff_addr {t : TypeId} {x : Operand} {fd off : Nat} (h : foff P t fd = some off) {fr : Fr} {s : PS} {a : Addr} (hx : opd x fr = .pointer (some a)) (γ : Type) (no : γ) (k : Value → PS → γ) :
    pFieldAddr no P t x fd fr s k = k (.pointer (some (padd a off))) s := by
  unfold foff at h
  unfold pFieldAddr
  cases hu : P.underlying t with
  | none => rw [hu] at h; cases h
  | some d =>
    rw [hu] at h
    cases d with
    | struct fs =>
      simp only at h ⊢
      cases hf : fs[fd]? with
      | none => rw [hf] at h; cases h
      | some g =>
        rw [hf] at h
        simp only at h ⊢
        cases hi : P.info? g.type with
        | none => rw [hi] at h; cases h
        | some i =>
          rw [hi] at h
          simp only at h ⊢
          cases hz : Nat.beq i.size 0 with
          | true => rw [hz] at h; cases h
          | false =>
            rw [hz] at h
            injection h with h
            subst h
            simp only [cond_false, hx]
            show fA _ _ = _
            rw [fA_eq]
    | _ => cases h

theorem wop_ok {o : Oper} {fr : Fr} {f : WF} {ws : WS} {s : PS} {k : KV} (hops : ∀ x ∈ o.op.operands, opd x fr = wopd x f) (hs : St ws s) (h : wop P E (Wc P E mt orc) o f ws k) :
    OpOk P E mt orc o fr (rsOf o f) s k := by
  unfold wop at h
  cases ho : o.op with
  | move x =>
    rw [ho] at h
    have hx := hops x (by simp [ho, Op.operands])
    have hr : rsOf o f = .nought := by unfold rsOf; rw [ho]
    exact OpOk.one (by simp [ho]) (fun γ no k' => by rw [pop1_at ho]; exact rfl) hs (by rw [hx]; exact h) (by rw [hr]; rfl)
  | assign x =>
    rw [ho] at h
    have hx := hops x (by simp [ho, Op.operands])
    have hr : rsOf o f = .nought := by unfold rsOf; rw [ho]
    exact OpOk.one (by simp [ho]) (fun γ no k' => by rw [pop1_at ho]; exact rfl) hs (by rw [hx]; exact h) (by rw [hr]; rfl)
  | pick c a b =>
    rw [ho] at h
    have hc := hops c (by simp [ho, Op.operands])
    have ha := hops a (by simp [ho, Op.operands])
    have hb := hops b (by simp [ho, Op.operands])
    have hr : rsOf o f = .nought := by unfold rsOf; rw [ho]
    simp only at h
    unfold wb at h
    split at h
    · rename_i t hv
      cases t with
      | true => exact OpOk.one (v := opd a fr) (by simp [ho]) (fun γ no k' => by rw [pop1_at ho]; show Option.rec (motive := fun _ => γ) no _ (vB (opd c fr)) = _; rw [hc, hv]; rfl) hs (by rw [ha]; exact h) (by rw [hr]; rfl)
      | false => exact OpOk.one (v := opd b fr) (by simp [ho]) (fun γ no k' => by rw [pop1_at ho]; show Option.rec (motive := fun _ => γ) no _ (vB (opd c fr)) = _; rw [hc, hv]; rfl) hs (by rw [hb]; exact h) (by rw [hr]; rfl)
    · exact h.elim
  | alloc t =>
    rw [ho] at h
    have hr : rsOf o f = .all := by unfold rsOf; rw [ho]
    simp only at h
    cases hz : zeroCells? P t with
    | none => rw [hz] at h; exact h.elim
    | some z =>
      rw [hz] at h
      refine OpOk.one (by simp [ho]) (fun γ no k' => ?_) (hs.with z t (strideOf P t)) h (by rw [hr]; trivial)
      rw [pop1_at ho]
      unfold pop1
      simp only [hz, new_eq, hs.n]
  | box t x =>
    rw [ho] at h
    have hx := hops x (by simp [ho, Op.operands])
    have hr : rsOf o f = .all := by unfold rsOf; rw [ho]
    simp only at h
    refine OpOk.one (by simp [ho]) (fun γ no k' => ?_) (hs.with (wopd x f).cells.toList t (strideOf P t)) h (by rw [hr]; trivial)
    rw [pop1_at ho]
    unfold pop1
    simp only [hx, new_eq, hs.n]
  | build t ps =>
    rw [ho] at h
    have hr : rsOf o f = .nought := by unfold rsOf; rw [ho]
    simp only at h
    have hps : (ps.map fun (i, x) => (i, opd x fr)) = ps.map fun (i, x) => (i, wopd x f) := by
      apply Array.map_congr_left
      intro a ha
      obtain ⟨i, x⟩ := a
      have := hops x (by simp only [ho, Op.operands]; simp; exact ⟨i, by simpa using ha⟩)
      simp [this]
    cases hz : zeroCells? P t with
    | none => rw [hz] at h; exact h.elim
    | some z =>
      rw [hz] at h
      cases hc : calm P (Instr.build t (ps.map fun (i, x) => (i, wopd x f))) with
      | none => rw [hc] at h; exact h.elim
      | some v =>
        rw [hc] at h
        refine OpOk.one (by simp [ho]) (fun γ no k' => ?_) hs h (by rw [hr]; rfl)
        rw [pop1_at ho]
        show pBuild no P t ps fr s k' = _
        unfold pBuild
        simp only [hz, hps, hc, fV_eq]
  | buildSlice t n ps =>
    rw [ho] at h
    have hr : rsOf o f = .all := by unfold rsOf; rw [ho]
    simp only at h
    have hps : (ps.map fun (i, x) => (i, opd x fr)) = ps.map fun (i, x) => (i, wopd x f) := by
      apply Array.map_congr_left
      intro a ha
      obtain ⟨i, x⟩ := a
      have := hops x (by simp only [ho, Op.operands]; simp; exact ⟨i, by simpa using ha⟩)
      simp [this]
    cases hu : P.underlying t with
    | none => rw [hu] at h; exact h.elim
    | some d =>
      rw [hu] at h
      cases d with
      | slice e =>
        simp only at h
        cases hi : P.info? e with
        | none => rw [hi] at h; exact h.elim
        | some i =>
          cases hz : zeroCells? P e with
          | none => rw [hi, hz] at h; exact h.elim
          | some z =>
            rw [hi, hz] at h
            simp only at h
            cases hb : (Nat.ble (n * i.size) 16777216 && !Nat.beq i.size 0) with
            | false => rw [hb] at h; exact h.elim
            | true =>
              rw [hb] at h
              simp only [cond_true] at h
              split at h
              · rename_i cells hf
                refine OpOk.one (by simp [ho]) (fun γ no k' => ?_) (hs.with cells.toList e i.size) h (by rw [hr]; trivial)
                rw [pop1_at ho]
                show pBuildSlice no P t n ps fr s k' = _
                unfold pBuildSlice
                simp only [hu, hi, hz, hb, cond_true, hps, hf, fL_eq, new_eq, hs.n]
              · exact h.elim
      | _ => exact h.elim
  | load t a =>
    rw [ho] at h
    have ha := hops a (by simp [ho, Op.operands])
    obtain ⟨ad, hv, h⟩ := onP_some h
    obtain ⟨v, s', h1, h2, h3, h4⟩ := load_comes hs h
    have hr : rsOf o f = .addr ad := by unfold rsOf; rw [ho]; simp only [hv]
    refine OpOk.one (by simp [ho]) (fun γ no k' => ?_) h2 h3 (by rw [hr]; exact h4)
    rw [pop1_at ho]
    show Option.rec (motive := fun _ => γ) no _ (vP (opd a fr)) = _
    rw [ha, hv]
    exact h1 γ no k'
  | store t a x =>
    rw [ho] at h
    have ha := hops a (by simp [ho, Op.operands])
    have hx := hops x (by simp [ho, Op.operands])
    have hr : rsOf o f = .all := by unfold rsOf; rw [ho]
    simp only at h
    cases hi : P.info? t with
    | none => rw [hi] at h; exact h.elim
    | some i =>
      rw [hi] at h
      simp only at h
      cases hl : Nat.beq (len (wopd x f).cells.toList) i.size with
      | false => rw [hl] at h; exact h.elim
      | true =>
        rw [hl] at h
        obtain ⟨ad, hv, h⟩ := onP_some (show onP _ _ from h)
        obtain ⟨b, off, pb, rfl, h1, h2, h3, h4⟩ := h
        obtain ⟨s', h5, h6⟩ := put_comes hs h1 h2 h3
        refine OpOk.one (by simp [ho]) (fun γ no k' => ?_) h6 h4 (by rw [hr]; trivial)
        rw [pop1_at ho]
        show pStore no P t a x fr s k' = _
        unfold pStore
        simp only [hi, hx, hl, cond_true]
        show Option.rec (motive := fun _ => γ) no _ (vP (opd a fr)) = _
        rw [ha, hv]
        exact h5 γ no _
  | nilCheck x =>
    rw [ho] at h
    have hx := hops x (by simp [ho, Op.operands])
    have hr : rsOf o f = .nought := by unfold rsOf; rw [ho]
    obtain ⟨ad, hv, h⟩ := onP_some h
    refine OpOk.one (by simp [ho]) (fun γ no k' => ?_) hs h (by rw [hr]; rfl)
    rw [pop1_at ho]
    show Option.rec (motive := fun _ => γ) _ _ (vP (opd x fr)) = _
    rw [hx, hv]
    rfl
  | fieldAddr t x fd =>
    rw [ho] at h
    have hx := hops x (by simp [ho, Op.operands])
    have hr : rsOf o f = .nought := by unfold rsOf; rw [ho]
    simp only at h
    cases hf : foff P t fd with
    | none => rw [hf] at h; exact h.elim
    | some off =>
      rw [hf] at h
      obtain ⟨ad, hv, h⟩ := onP_some (show onP _ _ from h)
      refine OpOk.one (by simp [ho]) (fun γ no k' => ?_) hs h (by rw [hr]; rfl)
      rw [pop1_at ho]
      exact foff_addr hf (by rw [hx, hv]) γ no k'
  | field t x fd =>
    rw [ho] at h
    have hx := hops x (by simp [ho, Op.operands])
    have hr : rsOf o f = .nought := by unfold rsOf; rw [ho]
    simp only at h
    cases hu : P.underlying t with
    | none => rw [hu] at h; exact h.elim
    | some d =>
      rw [hu] at h
      cases d with
      | struct fs =>
        simp only at h
        cases hf : fs[fd]? with
        | none => rw [hf] at h; exact h.elim
        | some g =>
          cases hg : vG (wopd x f) with
          | none => rw [hf, hg] at h; exact h.elim
          | some cs =>
            rw [hf, hg] at h
            simp only at h
            cases hc : calm P (part g.type cs g.offset) with
            | none => rw [hc] at h; exact h.elim
            | some v =>
              rw [hc] at h
              refine OpOk.one (by simp [ho]) (fun γ no k' => ?_) hs h (by rw [hr]; rfl)
              rw [pop1_at ho]
              show pField no P t x fd fr s k' = _
              unfold pField
              simp only [hu, hf, hx, hg, onO_some, hc, fV_eq]
      | _ => exact h.elim
  | indexAddr t x ix =>
    rw [ho] at h
    have hx := hops x (by simp [ho, Op.operands])
    have hix := hops ix (by simp [ho, Op.operands])
    have hr : rsOf o f = .nought := by unfold rsOf; rw [ho]
    simp only at h
    have vn : ∀ {kd : IntKind} {i : Int}, wopd ix f = .int kd i → 0 ≤ i → vN (opd ix fr) = some i.toNat := fun {kd i} e hi => by
      rw [hix, e]
      obtain ⟨m, rfl⟩ := Int.eq_ofNat_of_zero_le hi
      rfl
    cases hu : P.underlying t with
    | none => rw [hu] at h; exact h.elim
    | some d =>
      rw [hu] at h
      cases d with
      | slice e =>
        simp only at h
        cases hi : P.info? e with
        | none => rw [hi] at h; exact h.elim
        | some i =>
          rw [hi] at h
          obtain ⟨a, n, cp, hv, h⟩ := onS_some (show onS _ _ from h)
          obtain ⟨kd, j, hj, h1, h2, a', rfl, hh⟩ := onI_some h
          refine OpOk.one (by simp [ho]) (fun γ no k' => ?_) hs hh (by rw [hr]; rfl)
          rw [pop1_at ho]
          show pIndexAddr no P t x ix fr s k' = _
          unfold pIndexAddr
          simp only [hu, hi, vn hj h1]
          have hvs : vS (opd x fr) = .sl (some a') n cp := by rw [hx, hv]; rfl
          simp only [hvs]
          have hlt : Nat.blt j.toNat n = true := Nat.ble_eq_true_of_le (by omega)
          simp only [hlt, cond_true, fA_eq]
      | array n e =>
        simp only at h
        cases hi : P.info? e with
        | none => rw [hi] at h; exact h.elim
        | some i =>
          rw [hi] at h
          obtain ⟨a', hv, h⟩ := onP_some (show onP _ _ from h)
          obtain ⟨kd, j, hj, h1, h2, h⟩ := onI_some h
          refine OpOk.one (by simp [ho]) (fun γ no k' => ?_) hs h (by rw [hr]; rfl)
          rw [pop1_at ho]
          show pIndexAddr no P t x ix fr s k' = _
          unfold pIndexAddr
          simp only [hu, hi, vn hj h1, onO_some]
          have hvp : vP (opd x fr) = some a' := by rw [hx, hv]; rfl
          have hlt : Nat.blt j.toNat n = true := Nat.ble_eq_true_of_le (by omega)
          simp only [hvp, onO_some, hlt, cond_true, fA_eq]
      | _ => exact h.elim
  | index t x ix =>
    rw [ho] at h
    have hx := hops x (by simp [ho, Op.operands])
    have hix := hops ix (by simp [ho, Op.operands])
    have hr : rsOf o f = .nought := by unfold rsOf; rw [ho]
    simp only at h
    cases hg : vG (wopd x f) with
    | none => rw [hg] at h; exact h.elim
    | some cs =>
      rw [hg] at h
      cases hu : P.underlying t with
      | none => rw [hu] at h; exact h.elim
      | some d =>
        rw [hu] at h
        cases d with
        | array n e =>
          simp only at h
          cases hi : P.info? e with
          | none => rw [hi] at h; exact h.elim
          | some i =>
            rw [hi] at h
            obtain ⟨kd, j, hj, h1, h2, h⟩ := onI_some (show onI _ _ from h)
            obtain ⟨v, hc, hk⟩ := wtv_some h
            refine OpOk.one (by simp [ho]) (fun γ no k' => ?_) hs hk (by rw [hr]; rfl)
            rw [pop1_at ho]
            show pIndex no P { o with op := .index t x ix } t x ix fr s k' = _
            unfold pIndex
            have hvn : vN (opd ix fr) = some j.toNat := by
              rw [hix, hj]
              obtain ⟨m, rfl⟩ := Int.eq_ofNat_of_zero_le h1
              rfl
            have hlt : Nat.blt j.toNat n = true := Nat.ble_eq_true_of_le (by omega)
            simp only [hx, hg, hu, hi, hvn, onO_some, hlt, cond_true, hc, fV_eq]
        | _ => exact h.elim
  | makeSlice t l c =>
    rw [ho] at h
    have hl := hops l (by simp [ho, Op.operands])
    have hc := hops c (by simp [ho, Op.operands])
    have hr : rsOf o f = .all := by unfold rsOf; rw [ho]
    simp only at h
    cases hu : P.underlying t with
    | none => rw [hu] at h; exact h.elim
    | some d =>
      rw [hu] at h
      cases d with
      | slice e =>
        simp only at h
        cases hi : P.info? e with
        | none => rw [hi] at h; exact h.elim
        | some i =>
          cases hz : zeroCells? P e with
          | none => rw [hi, hz] at h; exact h.elim
          | some z =>
            rw [hi, hz] at h
            simp only at h
            cases hb : Nat.beq i.size 0 with
            | true => rw [hb] at h; exact h.elim
            | false =>
              rw [hb] at h
              obtain ⟨n, hn, h⟩ := onI64_some (show onI64 _ _ from h)
              obtain ⟨m, hm, h1, h2, h3, h4, h⟩ := onI64_some h
              refine OpOk.one (by simp [ho]) (fun γ no k' => ?_) (hs.with (rowOf ⟨z⟩ (m.toNat * i.size)) e i.size) h (by rw [hr]; trivial)
              obtain ⟨n, rfl⟩ := Int.eq_ofNat_of_zero_le h1
              obtain ⟨m, rfl⟩ := Int.eq_ofNat_of_zero_le (Int.le_trans h1 h2)
              rw [pop1_at ho]
              show pMake no P t l c fr s k' = _
              unfold pMake
              have q1 : vN64 (opd l fr) = some n := by rw [hl, hn]; rfl
              have q2 : vN64 (opd c fr) = some m := by rw [hc, hm]; rfl
              have q3 : (Nat.ble n m && Nat.ble m 1000000000 && Nat.ble (i.bytes * m) 281474976710656) = true := by
                rw [Nat.ble_eq_true_of_le (by omega), Nat.ble_eq_true_of_le (by omega), Nat.ble_eq_true_of_le (by
                  have : ((i.bytes * m : Nat) : Int) ≤ 281474976710656 := by rw [Int.natCast_mul]; exact h4
                  omega)]
                rfl
              simp only [hu, hi, hz, hb, cond_false, q1, q2, onO_some, q3, cond_true, fL_eq, new_eq, hs.n]
              rfl
      | _ => exact h.elim
  | makeFunc fn a b =>
    rw [ho] at h
    have hr : rsOf o f = .nought := by unfold rsOf; rw [ho]
    have ha : opds a.toList fr = wopds a.toList f := opds_wopds fun x hx => hops x (by simp only [ho, Op.operands]; exact Array.mem_append.2 (.inl (by simpa using hx)))
    have hb : opds b.toList fr = wopds b.toList f := opds_wopds fun x hx => hops x (by simp only [ho, Op.operands]; exact Array.mem_append.2 (.inr (by simpa using hx)))
    refine OpOk.one (by simp [ho]) (fun γ no k' => ?_) hs h (by rw [hr]; rfl)
    rw [pop1_at ho]
    show k' (.func fn ⟨opds a.toList fr⟩ ⟨opds b.toList fr⟩) s = _
    rw [ha, hb]
  | extract t ix =>
    rw [ho] at h
    have hx := hops t (by simp [ho, Op.operands])
    have hr : rsOf o f = .nought := by unfold rsOf; rw [ho]
    simp only at h
    split at h
    · rename_i l hv
      split at h
      · rename_i v hl
        refine OpOk.one (by simp [ho]) (fun γ no k' => ?_) hs h (by rw [hr]; rfl)
        rw [pop1_at ho]
        show onO no (vT (opd t fr)) _ = _
        rw [hx, hv]
        show onO no (nth l ix) _ = _
        rw [nth_eq, hl]
        rfl
      · exact h.elim
    · exact h.elim
  | binOp op t x y sh =>
    rw [ho] at h
    have hx := hops x (by simp [ho, Op.operands])
    have hy := hops y (by simp [ho, Op.operands])
    have hr : rsOf o f = .nought := by unfold rsOf; rw [ho]
    simp only at h
    rw [← hx, ← hy] at h
    obtain ⟨v, h1, h2⟩ := bin_comes (s := s) ho h
    refine OpOk.one (by simp [ho]) (fun γ no k' => ?_) hs h2 (by rw [hr]; rfl)
    have : pop1 no P E o fr s k' = pBin no P o op t x y fr s k' := by unfold pop1; rw [ho]
    rw [this]
    exact h1 γ no k'
  | convert src dst x =>
    rw [ho] at h
    have hx := hops x (by simp [ho, Op.operands])
    have hr : rsOf o f = .nought := by unfold rsOf; rw [ho]
    simp only at h
    cases hp : plain (wopd x f) with
    | false => rw [hp] at h; exact h.elim
    | true =>
      rw [hp] at h
      simp only [cond_true] at h
      unfold onC at h
      split at h
      · rename_i v hc
        cases hv : plain v with
        | false => rw [hv] at h; exact h.elim
        | true =>
          rw [hv] at h
          refine OpOk.one (by simp [ho]) (fun γ no k' => ?_) hs h (by rw [hr]; rfl)
          have : pop1 no P E o fr s k' = pQuiet no P o fr s k' := by unfold pop1; rw [ho]
          rw [this]
          refine quiet_comes (fun z hz => ?_) ?_ hv γ no k'
          · simp only [ho, Op.operands] at hz
            simp at hz
            subst hz
            rw [hx]; exact hp
          · simp only [execOp, ho]
            refine calm_value ?_
            rw [hx]; exact hc
      · exact h.elim
  | unOp op t x =>
    rw [ho] at h
    have hx := hops x (by simp [ho, Op.operands])
    have hr : rsOf o f = .nought := by unfold rsOf; rw [ho]
    cases op with
    | not =>
      simp only at h
      split at h
      · rename_i b hv
        refine OpOk.one (by simp [ho]) (fun γ no k' => ?_) hs h (by rw [hr]; rfl)
        rw [pop1_at ho]
        show Option.rec (motive := fun _ => γ) no _ (vB (opd x fr)) = _
        rw [hx, hv]
        cases b <;> rfl
      · exact h.elim
    | neg =>
      simp only at h
      split at h
      · rename_i kd n hv
        refine OpOk.one (by simp [ho]) (fun γ no k' => ?_) hs h (by rw [hr]; rfl)
        have : pop1 no P E o fr s k' = pQuiet no P o fr s k' := by unfold pop1; rw [ho]
        rw [this]
        refine quiet_comes (fun z hz => ?_) ?_ rfl γ no k'
        · simp only [ho, Op.operands] at hz
          simp at hz
          subst hz
          rw [hx, hv]; rfl
        · simp only [execOp, ho]
          refine calm_value ?_
          rw [hx, hv]
          rfl
      · exact h.elim
    | _ => exact h.elim
  | call c =>
    rw [ho] at h
    have hr : rsOf o f = .all := by unfold rsOf; rw [ho]
    rw [hr]
    exact call_comes ho hops hs h
  | _ => rw [ho] at h; exact h.elim
end
end Go.Proofs.YtoimffkejoeadaaGreatDoor.Vm
