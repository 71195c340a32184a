/- The machine of our own: regions that draw their order, part 2: the trace of a run in text order. -/
import Derived.Test.YtoimffkejoeadaaGreatDoorVm13
namespace Go.Proofs.YtoimffkejoeadaaGreatDoor.Vm
open Go Go.RowKit
set_option linter.unusedVariables false
set_option linter.unusedSimpArgs false

structure Rc where
  o : Oper
  fr : Fr
  h : Hp
  n : Nat
  v : Value
  t : PS
  bm : Nat

def StepV (P : Program) (W0 : World) (ops : Array Oper) (i : Nat) (o : Oper) (fr : Fr) (s : PS) (v : Value) (s1 : PS) : Prop :=
  PL s s1 ∧ ∀ M, MaskIn s1 M → ∀ ι (a : Act) W, RH W0 ι M (hv s.heap) W → (∀ x ∈ o.op.operands, VR ι (opd x fr) (a.eval x)) →
    (∀ j b d, o.guard = some (j, b) → (ops[j]?).bind (·.dst) = some d → VR ι (getF d fr) (a.tmps.getD d undef)) → Fresh ι s.next s1.next →
    ∀ (K : Act → World → Prop) (Q : Exit → Act → World → Prop), (∀ ι' r W', VR ι' v r → Post W0 M ι (hv s.heap) W s.next ι' (hv s1.heap) W' s1.next → K (a.put o.dst r) W') → wpOp P ops Q i K a W

inductive Chain (P : Program) (W0 : World) (ops : Array Oper) : Nat → Fr → Hp → Nat → List Rc → Fr → Hp → Nat → Prop
  | nil {j : Nat} {fr : Fr} {h : Hp} {n : Nat} : Chain P W0 ops j fr h n [] fr h n
  | cons {j : Nat} {fr frN : Fr} {h hN : Hp} {n nN : Nat} {o : Oper} {v : Value} {t : PS} {bm : Nat} {L : List Rc} (hoi : ops[j]? = some o) (hcs : ∀ x ∈ o.op.operands, constOk x = true) (hst : StepV P W0 ops j o fr ⟨h, n, 0, 0⟩ v t)
      (rest : Chain P W0 ops (j + 1) (putD o.dst v fr) t.heap t.next L frN hN nN) : Chain P W0 ops j fr h n (⟨o, fr, h, n, v, t, bm⟩ :: L) frN hN nN

/-- Two operations that may come either way round share no block that one of them writes. -/
def Free (bm rd wr i rd' wr' : Nat) : Prop := Nat.testBit bm i = true ∨ ∀ b, ¬ (inM wr b ∧ (inM rd' b ∨ inM wr' b)) ∧ ¬ (inM wr' b ∧ (inM rd b ∨ inM wr b))
theorem clash_free {bm rd wr : Nat} {r : Rec} (h : clash bm rd wr r = false) : Free bm rd wr r.i r.rd r.wr := by
  unfold clash at h
  cases hb : Nat.testBit bm r.i with
  | true => exact .inl hb
  | false =>
    rw [hb] at h
    simp only [Bool.not_false, Bool.true_and, Bool.not_eq_false', Bool.and_eq_true] at h
    refine .inr fun b => ⟨fun hh => land_zero h.1 b ⟨hh.1, (inM_lor _ _ _).2 hh.2⟩, fun hh => land_zero h.2 b ⟨hh.1, (inM_lor _ _ _).2 hh.2⟩⟩
theorem free_zero {bm rd wr i rd' wr' : Nat} (h : rd = 0 ∧ wr = 0) : Free bm rd wr i rd' wr' := .inr fun b => by
  obtain ⟨rfl, rfl⟩ := h
  exact ⟨fun hh => inM_zero b hh.1, fun hh => hh.2.elim (inM_zero b) (inM_zero b)⟩
theorem free_zero' {bm rd wr i rd' wr' : Nat} (h : rd' = 0 ∧ wr' = 0) : Free bm rd wr i rd' wr' := .inr fun b => by
  obtain ⟨rfl, rfl⟩ := h
  exact ⟨fun hh => hh.2.elim (inM_zero b) (inM_zero b), fun hh => inM_zero b hh.1⟩
theorem clashes_spec {bm rd wr : Nat} : ∀ {l : List Rec}, clashes bm rd wr l = false → ∀ r ∈ l, clash bm rd wr r = false
  | [], _, r, hr => by cases hr
  | x :: l, h, r, hr => by
    have h' : (bif clash bm rd wr x then true else clashes bm rd wr l) = false := h
    cases hx : clash bm rd wr x with
    | true => rw [hx] at h'; cases h'
    | false =>
      rw [hx] at h'
      rcases List.mem_cons.1 hr with rfl | hr
      · exact hx
      · exact clashes_spec h' r hr

section
variable {P : Program} {W0 : World} {E : Addr → Option Value} {mt : List Meth} {call : Caller} {ops : Array Oper}
variable (hE : ∀ a v, E a = some v → W0.cell? a = some v ∧ atom v = true) (hmt : ∀ m ∈ mt, MethOk P m) (hC : CallOk P W0 call)
include hE hmt hC
theorem draw_ok : ∀ (l : List (Oper × Nat)) (j : Nat) (done : List Rec) (fr : Fr) (s : PS) (frN : Fr) (sN : PS), (∀ (k : Nat) (x : Oper × Nat), l[k]? = some x → ops[j + k]? = some x.1) → opsDraw P E mt ops l j done call fr s = .ok frN sN →
    ∃ L, Chain P W0 ops j fr s.heap s.next L frN sN.heap sN.next ∧ L.map (fun r => (r.o, r.bm)) = l ∧
      (∀ (k : Nat) (rc : Rc), L[k]? = some rc → ∀ r ∈ done, Free rc.bm rc.t.rd rc.t.wr r.i r.rd r.wr) ∧
      (∀ (k k' : Nat) (rc rc' : Rc), k < k' → L[k]? = some rc → L[k']? = some rc' → Free rc'.bm rc'.t.rd rc'.t.wr (j + k) rc.t.rd rc.t.wr) ∧
      (∀ b, (inM s.rd b → inM sN.rd b) ∧ (inM s.wr b → inM sN.wr b)) ∧ (∀ (k : Nat) (rc : Rc), L[k]? = some rc → ∀ b, (inM rc.t.rd b → inM sN.rd b) ∧ (inM rc.t.wr b → inM sN.wr b))
  | [], j, done, fr, s, frN, sN, hl, h => by
    have h' : OR.ok fr s = .ok frN sN := h
    injection h' with h1 h2
    subst h1
    subst h2
    exact ⟨[], .nil, rfl, fun k rc h => by simp at h, fun k k' rc rc' _ h => by simp at h, fun b => ⟨id, id⟩, fun k rc h => by simp at h⟩
  | x :: l, j, done, fr, s, frN, sN, hl, h => by
    have h' : (OR.rec (motive := fun _ => OR) .no
      (fun fr t =>
        bif Nat.beq t.rd 0 && Nat.beq t.wr 0 then opsDraw P E mt ops l (j + 1) done call fr ⟨t.heap, t.next, s.rd, s.wr⟩
        else bif clashes x.2 t.rd t.wr done then .no
        else fN (Nat.lor s.rd t.rd) fun rd => fN (Nat.lor s.wr t.wr) fun wr => opsDraw P E mt ops l (j + 1) (⟨j, t.rd, t.wr⟩ :: done) call fr ⟨t.heap, t.next, rd, wr⟩)
      (opStep P E mt ops x.1 call fr ⟨s.heap, s.next, 0, 0⟩) : OR) = .ok frN sN := h
    cases hst : opStep P E mt ops x.1 call fr ⟨s.heap, s.next, 0, 0⟩ with
    | no => rw [hst] at h'; cases h'
    | ok fr2 t =>
      rw [hst] at h'
      have hoi : ops[j]? = some x.1 := hl 0 x rfl
      obtain ⟨hcs, v, hfr2, hstep⟩ := step_ok hE hmt hC hoi hst
      have hl' : ∀ k y, l[k]? = some y → ops[j + 1 + k]? = some y.1 := fun k y hy => by rw [Nat.add_assoc, Nat.add_comm 1 k]; exact hl (k + 1) y (by simpa using hy)
      cases hz : (Nat.beq t.rd 0 && Nat.beq t.wr 0) with
      | true =>
        simp only [hz, cond_true] at h'
        rw [Bool.and_eq_true] at hz
        have hz : t.rd = 0 ∧ t.wr = 0 := ⟨Nat.eq_of_beq_eq_true hz.1, Nat.eq_of_beq_eq_true hz.2⟩
        obtain ⟨L, h1, h2, h3, h4, h5, h6⟩ := draw_ok l (j + 1) done fr2 _ frN sN hl' h'
        refine ⟨⟨x.1, fr, s.heap, s.next, v, t, x.2⟩ :: L, .cons hoi hcs hstep (by rw [← hfr2]; exact h1), by simp [h2], fun k rc hk r hr => ?_, fun k k' rc rc' hlt hk hk' => ?_, h5, fun k rc hk b => ?_⟩
        · cases k with
          | zero => simp at hk; subst hk; exact free_zero hz
          | succ k => exact h3 k rc (by simpa using hk) r hr
        · cases k' with
          | zero => omega
          | succ k' =>
            cases k with
            | zero => simp at hk; subst hk; exact free_zero' hz
            | succ k => have := h4 k k' rc rc' (by omega) (by simpa using hk) (by simpa using hk'); rwa [show j + 1 + k = j + (k + 1) by omega] at this
        · cases k with
          | zero => simp at hk; subst hk; rw [hz.1, hz.2]; exact ⟨fun h => absurd h (inM_zero b), fun h => absurd h (inM_zero b)⟩
          | succ k => exact h6 k rc (by simpa using hk) b
      | false =>
        simp only [hz, cond_false] at h'
        cases hcl : clashes x.2 t.rd t.wr done with
        | true => rw [hcl] at h'; cases h'
        | false =>
          rw [hcl] at h'
          simp only [cond_false, fN_eq] at h'
          obtain ⟨L, h1, h2, h3, h4, h5, h6⟩ := draw_ok l (j + 1) (⟨j, t.rd, t.wr⟩ :: done) fr2 _ frN sN hl' h'
          refine ⟨⟨x.1, fr, s.heap, s.next, v, t, x.2⟩ :: L, .cons hoi hcs hstep (by rw [← hfr2]; exact h1), by simp [h2], fun k rc hk r hr => ?_, fun k k' rc rc' hlt hk hk' => ?_, fun b => ?_, fun k rc hk b => ?_⟩
          · cases k with
            | zero => simp at hk; subst hk; exact clash_free (clashes_spec hcl r hr)
            | succ k => exact h3 k rc (by simpa using hk) r (by simp [hr])
          · cases k' with
            | zero => omega
            | succ k' =>
              cases k with
              | zero => simp at hk; subst hk; exact h3 k' rc' (by simpa using hk') ⟨j, t.rd, t.wr⟩ (by simp)
              | succ k => have := h4 k k' rc rc' (by omega) (by simpa using hk) (by simpa using hk'); rwa [show j + 1 + k = j + (k + 1) by omega] at this
          · exact ⟨fun hh => (h5 b).1 ((inM_lor _ _ b).2 (.inl hh)), fun hh => (h5 b).2 ((inM_lor _ _ b).2 (.inl hh))⟩
          · cases k with
            | zero => simp at hk; subst hk; exact ⟨fun hh => (h5 b).1 ((inM_lor _ _ b).2 (.inr hh)), fun hh => (h5 b).2 ((inM_lor _ _ b).2 (.inr hh))⟩
            | succ k => exact h6 k rc (by simpa using hk) b
end

/-! ### Which operation must be ahead of which -/
theorem apartGo_spec (ops : Array Oper) : ∀ (l : List (Oper × Nat)) (j : Nat) (done : List (Nat × Oper)), apartGo ops j l done = true →
    (∀ (k : Nat) x, l[k]? = some x → ∀ d ∈ done, Nat.testBit x.2 d.1 = true ∨ Oper.apart ops d.2 x.1 = true) ∧
    ∀ (k k' : Nat) x x', k < k' → l[k]? = some x → l[k']? = some x' → Nat.testBit x'.2 (j + k) = true ∨ Oper.apart ops x.1 x'.1 = true
  | [], j, done, h => ⟨fun k x h => by simp at h, fun k k' x x' _ h => by simp at h⟩
  | (o, bm) :: rest, j, done, h => by
    have h' : (done.all (fun (i, x) => Nat.testBit bm i || Oper.apart ops x o) && apartGo ops (j + 1) rest ((j, o) :: done)) = true := h
    rw [Bool.and_eq_true] at h'
    obtain ⟨h1, h2⟩ := h'
    obtain ⟨h3, h4⟩ := apartGo_spec ops rest (j + 1) _ h2
    refine ⟨fun k x hk d hd => ?_, fun k k' x x' hlt hk hk' => ?_⟩
    · cases k with
      | zero =>
        simp at hk; subst hk
        have := List.all_eq_true.1 h1 d hd
        simpa using this
      | succ k => exact h3 k x (by simpa using hk) d (by simp [hd])
    · cases k' with
      | zero => omega
      | succ k' =>
        cases k with
        | zero => simp at hk; subst hk; exact h3 k' x' (by simpa using hk') (j, o) (by simp)
        | succ k => have := h4 k k' x x' (by omega) (by simpa using hk) (by simpa using hk'); rwa [show j + 1 + k = j + (k + 1) by omega] at this

theorem aheads_take : ∀ (l : List Oper) (acc : List Nat), (aheads l acc).take acc.length = acc
  | [], acc => by simp [aheads]
  | x :: l, acc => by
    have e : aheads (x :: l) acc = aheads l (acc ++ [aheadOf acc x]) := rfl
    have h := aheads_take l (acc ++ [aheadOf acc x])
    rw [← e] at h
    have := congrArg (List.take acc.length) h
    rw [List.take_take] at this
    simpa using this
theorem aheads_spec : ∀ (l : List Oper) (acc : List Nat) (k : Nat) (o : Oper), l[k]? = some o → (aheads l acc)[acc.length + k]? = some (aheadOf ((aheads l acc).take (acc.length + k)) o)
  | [], acc, k, o, h => by simp at h
  | x :: l, acc, k, o, h => by
    have e : aheads (x :: l) acc = aheads l (acc ++ [aheadOf acc x]) := rfl
    cases k with
    | zero =>
      simp at h
      subst h
      have h1 := aheads_take l (acc ++ [aheadOf acc x])
      rw [← e] at h1
      have h2 := aheads_take (x :: l) acc
      rw [Nat.add_zero, h2]
      have h3 := congrArg (fun l : List Nat => l[acc.length]?) h1
      simp only [List.getElem?_take] at h3
      simpa using h3
    | succ k =>
      have := aheads_spec l (acc ++ [aheadOf acc x]) k o (by simpa using h)
      rw [← e] at this
      simp only [List.length_append, List.length_singleton] at this
      rwa [show acc.length + 1 + k = acc.length + (k + 1) by omega] at this
theorem aheads_length : ∀ (l : List Oper) (acc : List Nat), (aheads l acc).length = acc.length + l.length
  | [], acc => rfl
  | x :: l, acc => by
    have e : aheads (x :: l) acc = aheads l (acc ++ [aheadOf acc x]) := rfl
    rw [e, aheads_length]
    simp
    omega

theorem aheadOf_mem {acc : List Nat} {o : Oper} {i : Nat} (h : Nat.testBit (aheadOf acc o) i = true) : ∃ e ∈ o.after, Region.binds .any e = true ∧ (i = e.on ∨ Nat.testBit (acc.getD e.on 0) i = true) := by
  unfold aheadOf at h
  have key : ∀ (l : List Edge) (m : Nat), Nat.testBit (l.foldl (fun m e => bif Region.binds .any e then Nat.lor m (Nat.lor (bit e.on) (acc.getD e.on 0)) else m) m) i = true →
      Nat.testBit m i = true ∨ ∃ e ∈ l, Region.binds .any e = true ∧ (i = e.on ∨ Nat.testBit (acc.getD e.on 0) i = true) := by
    intro l
    induction l with
    | nil => intro m h; exact .inl h
    | cons e l ih =>
      intro m h
      simp only [List.foldl_cons] at h
      rcases ih _ h with h | ⟨e', he', h⟩
      · cases hb : Region.binds .any e with
        | false => rw [hb] at h; exact .inl h
        | true =>
          rw [hb] at h
          simp only [cond_true] at h
          rcases (inM_lor _ _ i).1 h with h | h
          · exact .inl h
          · rcases (inM_lor _ _ i).1 h with h | h
            · exact .inr ⟨e, by simp, hb, .inl ((inM_bit_iff _ _).1 h)⟩
            · exact .inr ⟨e, by simp, hb, .inr h⟩
      · exact .inr ⟨e', by simp [he'], h⟩
  rcases key _ _ h with h | ⟨e, he, h⟩
  · simp at h
  · exact ⟨e, by simpa using he, h⟩

/-- What must be ahead of an operation is in every set that is closed and holds what its edges name. -/
theorem ahead_in {ops : Array Oper} {S : Nat → Prop} (hS : ∀ j o, S j → ops[j]? = some o → ∀ e ∈ o.after, Region.binds .any e = true → S e.on) :
    ∀ (j : Nat) (o : Oper) (bm : Nat), ops[j]? = some o → (aheads ops.toList [])[j]? = some bm → (∀ e ∈ o.after, Region.binds .any e = true → S e.on) → ∀ i, Nat.testBit bm i = true → S i := by
  intro j
  induction j using Nat.strongRecOn with
  | _ j ih =>
    intro o bm ho hbm he i hi
    have h1 := aheads_spec ops.toList [] j o (by simpa using ho)
    simp only [List.length_nil, Nat.zero_add] at h1
    rw [hbm] at h1
    injection h1 with h1
    rw [h1] at hi
    obtain ⟨e, hem, heb, hi⟩ := aheadOf_mem hi
    have hSe := he e hem heb
    rcases hi with rfl | hi
    · exact hSe
    · by_cases hlt : e.on < j
      · have hlen : e.on < (aheads ops.toList []).length := by
          have := (List.getElem?_eq_some_iff.1 hbm).1
          omega
        have hget : ((aheads ops.toList []).take j).getD e.on 0 = (aheads ops.toList [])[e.on] := by
          rw [List.getD_eq_getElem?_getD, List.getElem?_take, if_pos hlt, List.getElem?_eq_getElem hlen]
          rfl
        rw [hget] at hi
        have hlen' : e.on < ops.size := by rw [aheads_length] at hlen; simpa using hlen
        have hoe : ops[e.on]? = some ops[e.on] := Array.getElem?_eq_getElem hlen'
        exact ih e.on hlt ops[e.on] _ hoe (List.getElem?_eq_getElem hlen) (hS e.on _ hSe hoe) i hi
      · have : ((aheads ops.toList []).take j).getD e.on 0 = 0 := by
          rw [List.getD_eq_getElem?_getD, List.getElem?_take, if_neg hlt]
          rfl
        rw [this] at hi
        simp at hi
end Go.Proofs.YtoimffkejoeadaaGreatDoor.Vm
