/- The logic over the machine: regions, code, calls. -/
import Derived.Test.YtoimffkejoeadaaGreatDoorW5
namespace Go.Proofs.YtoimffkejoeadaaGreatDoor.Vm
open Go Go.RowKit
set_option linter.unusedVariables false
set_option linter.unusedSimpArgs false

/-! ### Sets of slots -/
theorem mem_insL {t u : Nat} : ∀ {l : List Nat}, t ∈ insL u l ↔ t = u ∨ t ∈ l
  | [] => by simp [insL]
  | v :: l => by
    unfold insL
    cases h : Nat.beq u v with
    | true =>
      have := Nat.eq_of_beq_eq_true h
      subst this
      simp
    | false =>
      simp only [cond_false]
      cases Nat.blt u v with
      | true => simp
      | false =>
        simp only [cond_false, List.mem_cons, mem_insL (l := l)]
        constructor
        · rintro (h | h | h)
          · exact .inr (.inl h)
          · exact .inl h
          · exact .inr (.inr h)
        · rintro (h | h | h)
          · exact .inr (.inl h)
          · exact .inl h
          · exact .inr (.inr h)
theorem mem_uniL {t : Nat} : ∀ {a b : List Nat}, t ∈ uniL a b ↔ t ∈ a ∨ t ∈ b
  | [], b => by simp [uniL]
  | u :: a, b => by
    show t ∈ uniL a (insL u b) ↔ _
    rw [mem_uniL (a := a), mem_insL]
    simp only [List.mem_cons]
    constructor
    · rintro (h | h | h)
      · exact .inl (.inr h)
      · exact .inl (.inl h)
      · exact .inr h
    · rintro ((h | h) | h)
      · exact .inr (.inl h)
      · exact .inl h
      · exact .inr (.inr h)
theorem opdUse_sub {x : Operand} {l : List Nat} {t : Nat} (h : t ∈ l) : t ∈ opdUse x l := by
  cases x with
  | tmp u => exact mem_insL.2 (.inr h)
  | _ => exact h
theorem opdUse_mem {l : List Nat} {t : Nat} : t ∈ opdUse (.tmp t) l := mem_insL.2 (.inl rfl)
theorem fold_sub : ∀ (xs : List Operand) {l : List Nat} {t : Nat}, t ∈ l → t ∈ xs.foldl (fun l x => opdUse x l) l
  | [], l, t, h => h
  | x :: xs, l, t, h => fold_sub xs (opdUse_sub h)
theorem fold_mem : ∀ (xs : List Operand) {l : List Nat} {t : Nat}, Operand.tmp t ∈ xs → t ∈ xs.foldl (fun l x => opdUse x l) l
  | x :: xs, l, t, h => by
    rcases List.mem_cons.1 h with h | h
    · subst h; exact fold_sub xs opdUse_mem
    · exact fold_mem xs h
section
variable {ops : Array Oper} {o : Oper}
theorem opUse_sub {l : List Nat} {t : Nat} (h : t ∈ l) : t ∈ opUse ops o l := by
  unfold opUse
  have := fold_sub o.op.operands.toList h
  cases o.guard with
  | none => exact this
  | some jb =>
    obtain ⟨j, b⟩ := jb
    simp only
    cases (ops[j]?).bind (·.dst) with
    | none => exact this
    | some d => exact mem_insL.2 (.inr this)
theorem opUse_opd {l : List Nat} {t : Nat} (h : Operand.tmp t ∈ o.op.operands) : t ∈ opUse ops o l := by
  unfold opUse
  have := fold_mem o.op.operands.toList (l := l) (t := t) (by simpa using h)
  cases o.guard with
  | none => exact this
  | some jb =>
    obtain ⟨j, b⟩ := jb
    simp only
    cases (ops[j]?).bind (·.dst) with
    | none => exact this
    | some d => exact mem_insL.2 (.inr this)
theorem opUse_guard {l : List Nat} {j d : Nat} {b : Bool} (hg : o.guard = some (j, b)) (hd : (ops[j]?).bind (·.dst) = some d) : d ∈ opUse ops o l := by
  unfold opUse
  rw [hg]
  simp only [hd]
  exact mem_insL.2 (.inl rfl)
end

/-! ### Frames -/
theorem wget_mask {L : List Nat} {f : WF} {t : Nat} (h : t ∈ L) : wget t (mask L f) = wget t f := by
  induction L with
  | nil => cases h
  | cons u l ih =>
    show (bif Nat.beq u t then wget u f else wget t (mask l f)) = _
    cases hb : Nat.beq u t with
    | true => have := Nat.eq_of_beq_eq_true hb; subst this; rfl
    | false =>
      simp only [cond_false]
      rcases List.mem_cons.1 h with h | h
      · subst h; rw [Nat.beq_refl] at hb; cases hb
      · exact ih h
theorem Ag.mask {L : List Nat} {fr : Fr} {f : WF} (h : Ag L fr f) : Ag L fr (mask L f) := fun t ht => (h t ht).trans (wget_mask ht).symm
theorem Ag.unmask {L : List Nat} {fr : Fr} {f : WF} (h : Ag L fr (Vm.mask L f)) : Ag L fr f := fun t ht => (h t ht).trans (wget_mask ht)
theorem Ag.sub {L L' : List Nat} {fr : Fr} {f : WF} (h : Ag L fr f) (hs : ∀ t ∈ L', t ∈ L) : Ag L' fr f := fun t ht => h t (hs t ht)
/-- Every slot of a set lies in the frame. -/
def Low (L : List Nat) : Prop := ∀ t ∈ L, t < 256
theorem Ag.put {L : List Nat} {fr : Fr} {f : WF} {d : Option Tmp} (hL : Low L) (hd : ∀ t, d = some t → t < 256) (v : Value) (h : ∀ t ∈ L, d ≠ some t → getF t fr = wget t f) : Ag L (putD d v fr) (wput d v f) := by
  intro t ht
  cases d with
  | none => exact h t ht (by simp)
  | some d =>
    show getF t (putF d v fr) = (bif Nat.beq d t then v else wget t f)
    by_cases e : t = d
    · subst e; rw [getF_same, Nat.beq_refl]; rfl
    · rw [getF_other d t v fr (hd d rfl) (hL t ht) e]
      have : Nat.beq d t = false := by
        cases hb : Nat.beq d t with
        | true => exact absurd (Nat.eq_of_beq_eq_true hb).symm e
        | false => rfl
      rw [this]
      exact h t ht (by simp; exact fun e' => e e'.symm)

section
variable {P : Program} {E : Addr → Option Value} {mt : List Meth} {orc : FuncId → List Value → Option Value}

/-! ### A step of a region -/
theorem wsplit_eq {b : Bool} {v : Value} {K : Value → Prop} (h : wsplit b v K) : K v := by
  unfold wsplit at h
  split at h
  · rename_i t; cases t <;> exact h
  · exact h
theorem wstep_ok {ops : Array Oper} {o : Oper} {nt : Nat} (hnt : nt ≤ 256) (hok : operOk nt o = true) {fr : Fr} {f : WF} {ws : WS} {s : PS} {out : List Nat} {K : WF → WS → Prop} (hout : Low out)
    (hgs : ∀ j b d, o.guard = some (j, b) → (ops[j]?).bind (·.dst) = some d → d < 256)
    (hag : Ag (opUse ops o (match o.dst with | some d => out.filter fun t => !Nat.beq t d | none => out)) fr f) (hs : St ws s) (h : wstep P E (Wc P E mt orc) ops o f ws K) :
    ∃ N fr' s' f' ws', (∀ n, N ≤ n → opStep P E mt ops o (runCall P E mt orc n) fr s = .ok fr' s') ∧ Ag out fr' f' ∧ St ws' s' ∧ K f' ws' ∧ RdIn (rsOf o f) s s' := by
  obtain ⟨ho1, ho2⟩ := operOk_spec hok
  have hops : ∀ x ∈ o.op.operands, opd x fr = wopd x f := fun x hx => by
    cases x with
    | tmp t => exact hag t (opUse_opd hx)
    | _ => rfl
  have hput : ∀ v, Ag out (putD o.dst v fr) (wput o.dst v f) := fun v => Ag.put hout (fun t ht => Nat.lt_of_lt_of_le (ho2 t ht) hnt) v fun t ht hne => by
    refine hag t (opUse_sub ?_)
    cases hd : o.dst with
    | none => exact ht
    | some d =>
      simp only
      refine List.mem_filter.2 ⟨ht, ?_⟩
      rw [hd] at hne
      cases hb : Nat.beq t d with
      | true => exact absurd (Nat.eq_of_beq_eq_true hb) (fun e => hne (by rw [e]))
      | false => rfl
  unfold wstep at h
  cases hcs : o.op.operands.toList.all constOk with
  | false => rw [hcs] at h; exact h.elim
  | true =>
    rw [hcs] at h
    simp only at h
    have go : wop P E (Wc P E mt orc) o f ws (fun v s => wsplit (guards ops o.dst) v fun v => K (wput o.dst v f) s) → ∃ N fr' s' f' ws', (∀ n, N ≤ n → opGo P E mt o (runCall P E mt orc n) fr s = .ok fr' s') ∧ Ag out fr' f' ∧ St ws' s' ∧ K f' ws' ∧ RdIn (rsOf o f) s s' := fun h => by
      obtain ⟨N, v, s', ws', h1, h2, h3, h4⟩ := wop_ok hops hs h
      refine ⟨N, putD o.dst v fr, s', wput o.dst v f, ws', fun n hn => ?_, hput v, h2, wsplit_eq h3, h4⟩
      unfold opGo
      rw [h1 n hn]
      exact putK_eq _ _ _ _
    have skip : K (wput o.dst undef f) ws → ∃ N fr' s' f' ws', (∀ n, N ≤ n → opSkip o fr s = .ok fr' s') ∧ Ag out fr' f' ∧ St ws' s' ∧ K f' ws' ∧ RdIn (rsOf o f) s s' := fun h =>
      ⟨0, putD o.dst undef fr, s, wput o.dst undef f, ws, fun n _ => putK_eq _ _ _ _, hput undef, hs, h, rdIn_refl _ _⟩
    unfold opStep
    rw [hcs]
    simp only [cond_true]
    cases hg : o.guard with
    | none =>
      rw [hg] at h
      exact go h
    | some jb =>
      obtain ⟨j, b⟩ := jb
      rw [hg] at h
      simp only at h
      cases hd : (ops[j]?).bind (·.dst) with
      | none => rw [hd] at h; exact h.elim
      | some d =>
        rw [hd] at h
        simp only at h
        have hgd : getF d fr = wget d f := hag d (opUse_guard hg hd)
        cases hv : vB (wget d f) with
        | none =>
          rw [hv] at h
          have := skip h
          cases b <;> (simp only [hd, hgd, hv]; exact this)
        | some t =>
          rw [hv] at h
          cases b <;> cases t <;> (simp only [hd, hgd, hv]; first | exact go h | exact skip h)

def DLow (ops : Array Oper) : Prop := ∀ (j d : Nat), (ops[j]?).bind (fun x : Oper => x.dst) = some d → d < 256
theorem opUse_low {ops : Array Oper} {nt : Nat} {o : Oper} {l : List Nat} (hnt : nt ≤ 256) (dlow : DLow ops) (ho : operOk nt o = true) (hl : Low l) : Low (opUse ops o l) := by
  have h1 : Low (o.op.operands.toList.foldl (fun l x => opdUse x l) l) := by
    have : ∀ (xs : List Operand) (l : List Nat), (∀ x ∈ xs, slotOk nt x = true) → Low l → Low (xs.foldl (fun l x => opdUse x l) l) := fun xs => by
      induction xs with
      | nil => exact fun l _ h => h
      | cons x xs ih =>
        intro l hx h
        refine ih _ (fun y hy => hx y (by simp [hy])) fun t ht => ?_
        cases x with
        | tmp u =>
          rcases mem_insL.1 ht with e | e
          · subst e
            exact Nat.lt_of_lt_of_le (blt_lt (hx (.tmp t) (by simp))) hnt
          · exact h t e
        | _ => exact h t ht
    exact this _ _ (fun x hx => (operOk_spec ho).1 x (by simpa using hx)) hl
  unfold opUse
  cases o.guard with
  | none => exact h1
  | some jb =>
    obtain ⟨j, b⟩ := jb
    simp only
    cases hd : (ops[j]?).bind (·.dst) with
    | none => exact h1
    | some d =>
      intro t ht
      rcases mem_insL.1 ht with e | e
      · subst e; exact dlow j t hd
      · exact h1 t e
theorem lvLow {ops : Array Oper} {nt : Nat} (hnt : nt ≤ 256) (dlow : DLow ops) {out : List Nat} (hout : Low out) : ∀ (l : List Oper), (∀ o ∈ l, operOk nt o = true) → Low (lvOps ops l out)
  | [], _ => hout
  | o :: l, hl => by
    have ih := lvLow hnt dlow hout l fun o ho => hl o (by simp [ho])
    intro t ht
    have ht' : t ∈ opUse ops o (match o.dst with | some d => (lvOps ops l out).filter fun t => !Nat.beq t d | none => lvOps ops l out) := ht
    exact opUse_low hnt dlow (hl o (by simp)) (fun t ht => by
      cases hd : o.dst with
      | none => rw [hd] at ht; exact ih t ht
      | some d => rw [hd] at ht; exact ih t (List.mem_filter.1 ht).1) t ht'
theorem dlow_of {ops : Array Oper} {nt : Nat} (hnt : nt ≤ 256) (hgs : ∀ o ∈ ops.toList, operOk nt o = true) : DLow ops := fun j d hd => by
  cases hoj : ops[j]? with
  | none => simp [hoj] at hd
  | some oj =>
    simp [hoj] at hd
    exact Nat.lt_of_lt_of_le ((operOk_spec (hgs oj (by simpa using Array.mem_of_getElem? hoj))).2 d hd) hnt
theorem wtext_ok {ops : Array Oper} {nt : Nat} (hnt : nt ≤ 256) (hgs : ∀ o ∈ ops.toList, operOk nt o = true) : ∀ (l : List Oper) (hl : ∀ o ∈ l, operOk nt o = true) (fr : Fr) (f : WF) (ws : WS) (s : PS) (out : List Nat) (K : WF → WS → Prop), Low out → Ag (lvOps ops l out) fr f → St ws s →
    wtext P E (Wc P E mt orc) ops l f ws K → ∃ N fr' s' f' ws', (∀ n, N ≤ n → opsText P E mt ops l (runCall P E mt orc n) fr s = .ok fr' s') ∧ Ag out fr' f' ∧ St ws' s' ∧ K f' ws'
  | [], hl, fr, f, ws, s, out, K, hout, hag, hs, h => ⟨0, fr, s, f, ws, fun _ _ => rfl, hag, hs, h⟩
  | o :: l, hl, fr, f, ws, s, out, K, hout, hag, hs, h => by
    have dlow := dlow_of hnt hgs
    obtain ⟨N1, fr1, s1, f1, ws1, h1, h2, h3, h4, _⟩ := wstep_ok hnt (hl o (by simp)) (lvLow hnt dlow hout l fun o ho => hl o (by simp [ho])) (fun j b d _ hd => dlow j d hd) hag hs h
    obtain ⟨N2, fr2, s2, f2, ws2, k1, k2, k3, k4⟩ := wtext_ok hnt hgs l (fun o ho => hl o (by simp [ho])) fr1 f1 ws1 s1 out K hout h2 h3 h4
    refine ⟨max N1 N2, fr2, s2, f2, ws2, fun n hn => ?_, k2, k3, k4⟩
    show (OR.rec (motive := fun _ => OR) .no (opsText P E mt ops l (runCall P E mt orc n)) (opStep P E mt ops o (runCall P E mt orc n) fr s)) = _
    rw [h1 n (by omega)]
    exact k1 n (by omega)
end
end Go.Proofs.YtoimffkejoeadaaGreatDoor.Vm
