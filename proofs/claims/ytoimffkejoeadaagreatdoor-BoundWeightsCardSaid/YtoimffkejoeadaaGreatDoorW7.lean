/- The logic over the machine: regions that draw their order, code, loops, calls. -/
import Derived.Test.YtoimffkejoeadaaGreatDoorW6
namespace Go.Proofs.YtoimffkejoeadaaGreatDoor.Vm
open Go Go.RowKit
set_option linter.unusedVariables false
set_option linter.unusedSimpArgs false

section
variable {P : Program} {E : Addr → Option Value} {mt : List Meth} {orc : FuncId → List Value → Option Value}

/-! ### Regions that draw their order -/
theorem land_of {m n : Nat} (h : ∀ b, inM m b → ¬ inM n b) : Nat.beq (Nat.land m n) 0 = true := by
  have : m &&& n = 0 := by
    apply Nat.eq_of_testBit_eq
    intro i
    rw [Nat.testBit_and, Nat.zero_testBit]
    cases h1 : Nat.testBit m i with
    | false => rfl
    | true =>
      cases h2 : Nat.testBit n i with
      | false => rfl
      | true => exact absurd h2 (h i h1)
  show Nat.beq (m &&& n) 0 = true
  rw [this]; rfl
theorem wclash_ok {bm : Nat} {r : RS} {w : Nat → Prop} {K : Prop} : ∀ {l : List WRec}, wclash bm r w l K → K ∧ ∀ x ∈ l, (Nat.testBit bm x.i || (r.ro && x.r.ro)) = true ∨ wapart r w x
  | [], h => ⟨h, fun x hx => by cases hx⟩
  | x :: l, h => by
    unfold wclash at h
    cases hb : (Nat.testBit bm x.i || (r.ro && x.r.ro)) with
    | true =>
      rw [hb] at h
      simp only at h
      obtain ⟨h1, h2⟩ := wclash_ok (l := l) h
      refine ⟨h1, fun y hy => ?_⟩
      rcases List.mem_cons.1 hy with e | e
      · subst e; exact .inl hb
      · exact h2 y e
    | false =>
      rw [hb] at h
      obtain ⟨h0, h⟩ := h
      obtain ⟨h1, h2⟩ := wclash_ok (l := l) h
      refine ⟨h1, fun y hy => ?_⟩
      rcases List.mem_cons.1 hy with e | e
      · subst e; exact .inr h0
      · exact h2 y e
def RecR (r : Rec) (x : WRec) : Prop := r.i = x.i ∧ (∀ b, inM r.rd b → x.r.has b) ∧ (∀ b, inM r.wr b → x.w b) ∧ (x.r.ro = true → r.wr = 0)
def DoneR (d : List Rec) (l : List WRec) : Prop := ∀ r ∈ d, ∃ x ∈ l, RecR r x
theorem clashes_eq {bm rd wr : Nat} : ∀ (l : List Rec), (∀ r ∈ l, clash bm rd wr r = false) → clashes bm rd wr l = false
  | [], h => rfl
  | r :: l, h => by
    show (bif clash bm rd wr r then true else clashes bm rd wr l) = false
    rw [h r (by simp), clashes_eq l fun x hx => h x (by simp [hx])]
    rfl
theorem clash_no {bm rd wr : Nat} {r : RS} {w : Nat → Prop} {rc : Rec} {x : WRec} (h : RecR rc x) (hrd : ∀ b, inM rd b → r.has b) (hwr : ∀ b, inM wr b → w b) (hro : r.ro = true → wr = 0)
    (hx : (Nat.testBit bm x.i || (r.ro && x.r.ro)) = true ∨ wapart r w x) : clash bm rd wr rc = false := by
  obtain ⟨h1, h2, h3, h4⟩ := h
  unfold clash
  rw [h1]
  cases ht : Nat.testBit bm x.i with
  | true => rfl
  | false =>
    rw [ht] at hx
    simp only [Bool.not_false, Bool.true_and]
    have fin : Nat.beq (Nat.land wr (Nat.lor rc.rd rc.wr)) 0 = true → Nat.beq (Nat.land rc.wr (Nat.lor rd wr)) 0 = true → (!(Nat.beq (Nat.land wr (Nat.lor rc.rd rc.wr)) 0 && Nat.beq (Nat.land rc.wr (Nat.lor rd wr)) 0)) = false := fun e1 e2 => by rw [e1, e2]; rfl
    rcases hx with hx | ⟨ha, hb⟩
    · simp only [Bool.false_or, Bool.and_eq_true] at hx
      have e1 := hro hx.1
      have e2 := h4 hx.2
      refine fin (land_of fun b hb1 => ?_) (land_of fun b hb1 => ?_)
      · rw [e1] at hb1; exact absurd hb1 (inM_zero b)
      · rw [e2] at hb1; exact absurd hb1 (inM_zero b)
    · refine fin (land_of fun b hb1 hb2 => ?_) (land_of fun b hb1 hb2 => ?_)
      · refine ha b (hwr b hb1) ?_
        rcases (inM_lor _ _ b).1 hb2 with e | e
        · exact .inl (h2 b e)
        · exact .inr (h3 b e)
      · refine hb b (h3 b hb1) ?_
        rcases (inM_lor _ _ b).1 hb2 with e | e
        · exact .inl (hrd b e)
        · exact .inr (hwr b e)

theorem wdraw_ok {ops : Array Oper} {nt : Nat} (hnt : nt ≤ 256) (hgs : ∀ o ∈ ops.toList, operOk nt o = true) : ∀ (l : List (Oper × Nat)) (hl : ∀ x ∈ l, operOk nt x.1 = true) (j : Nat) (done : List WRec) (rdone : List Rec) (fr : Fr) (f : WF) (ws : WS) (s : PS) (out : List Nat) (K : WF → WS → Prop),
    DoneR rdone done → Low out → Ag (lvOps ops (l.map (·.1)) out) fr f → St ws s →
    wdraw P E (Wc P E mt orc) ops l j done f ws K → ∃ N fr' s' f' ws', (∀ n, N ≤ n → opsDraw P E mt ops l j rdone (runCall P E mt orc n) fr s = .ok fr' s') ∧ Ag out fr' f' ∧ St ws' s' ∧ K f' ws'
  | [], hl, j, done, rdone, fr, f, ws, s, out, K, hd, hout, hag, hs, h => ⟨0, fr, s, f, ws, fun _ _ => rfl, hag, hs, h⟩
  | (o, bm) :: l, hl, j, done, rdone, fr, f, ws, s, out, K, hd, hout, hag, hs, h => by
    have dlow := dlow_of hnt hgs
    have hlow : Low (lvOps ops (l.map (·.1)) out) := lvLow hnt dlow hout _ fun o ho => by
      obtain ⟨x, hx, rfl⟩ := List.mem_map.1 ho
      exact hl x (by simp [hx])
    have hok : operOk nt o = true := hl (o, bm) (by simp)
    have hl' : ∀ x ∈ l, operOk nt x.1 = true := fun x hx => hl x (by simp [hx])
    have unf : ∀ c : Caller, opsDraw P E mt ops ((o, bm) :: l) j rdone c fr s = OR.rec (motive := fun _ => OR) .no (fun fr t =>
        bif Nat.beq t.rd 0 && Nat.beq t.wr 0 then opsDraw P E mt ops l (j + 1) rdone c fr ⟨t.heap, t.next, s.rd, s.wr⟩
        else bif clashes bm t.rd t.wr rdone then .no
        else fN (Nat.lor s.rd t.rd) fun rd => fN (Nat.lor s.wr t.wr) fun wr => opsDraw P E mt ops l (j + 1) (⟨j, t.rd, t.wr⟩ :: rdone) c fr ⟨t.heap, t.next, rd, wr⟩) (opStep P E mt ops o c fr ⟨s.heap, s.next, 0, 0⟩) := fun _ => rfl
    have hs0 : St ws.z ⟨s.heap, s.next, 0, 0⟩ := ⟨hs.h, hs.n, fun b hb => absurd hb (inM_zero b)⟩
    -- what is common: a step whose masks are known
    have go : ∀ (r : RS) (w : Nat → Prop) (us : WS) (N1 : Nat) (fr1 : Fr) (t : PS) (f1 : WF), (∀ n, N1 ≤ n → opStep P E mt ops o (runCall P E mt orc n) fr ⟨s.heap, s.next, 0, 0⟩ = .ok fr1 t) → Ag (lvOps ops (l.map (·.1)) out) fr1 f1 →
        (∀ b, inM t.rd b → r.has b) → (∀ b, inM t.wr b → w b) → (r.ro = true → t.wr = 0) → (∀ x ∈ done, (Nat.testBit bm x.i || (r.ro && x.r.ro)) = true ∨ wapart r w x) → St us ⟨t.heap, t.next, Nat.lor s.rd t.rd, Nat.lor s.wr t.wr⟩ → St us ⟨t.heap, t.next, s.rd, s.wr⟩ →
        wdraw P E (Wc P E mt orc) ops l (j + 1) (⟨j, r, w⟩ :: done) f1 us K → ∃ N fr' s' f' ws', (∀ n, N ≤ n → opsDraw P E mt ops ((o, bm) :: l) j rdone (runCall P E mt orc n) fr s = .ok fr' s') ∧ Ag out fr' f' ∧ St ws' s' ∧ K f' ws' := by
      intro r w us N1 fr1 t f1 h1 h2 hrd hwr hro h7 st' st0 h6
      have hdone1 : DoneR rdone (⟨j, r, w⟩ :: done) := fun x hx => by
        obtain ⟨y, hy, hyr⟩ := hd x hx
        exact ⟨y, by simp [hy], hyr⟩
      have hdone2 : DoneR (⟨j, t.rd, t.wr⟩ :: rdone) (⟨j, r, w⟩ :: done) := fun x hx => by
        rcases List.mem_cons.1 hx with e | e
        · subst e
          exact ⟨⟨j, r, w⟩, by simp, rfl, hrd, hwr, hro⟩
        · exact hdone1 x e
      cases hz : (Nat.beq t.rd 0 && Nat.beq t.wr 0) with
      | true =>
        obtain ⟨N2, fr2, s2, f2, ws2, k1, k2, k3, k4⟩ := wdraw_ok hnt hgs l hl' (j + 1) _ rdone fr1 f1 _ _ out K hdone1 hout h2 st0 h6
        refine ⟨max N1 N2, fr2, s2, f2, ws2, fun n hn => ?_, k2, k3, k4⟩
        rw [unf, h1 n (by omega)]
        show (bif (Nat.beq t.rd 0 && Nat.beq t.wr 0) then _ else _) = _
        rw [hz]
        exact k1 n (by omega)
      | false =>
        obtain ⟨N2, fr2, s2, f2, ws2, k1, k2, k3, k4⟩ := wdraw_ok hnt hgs l hl' (j + 1) _ _ fr1 f1 _ _ out K hdone2 hout h2 st' h6
        refine ⟨max N1 N2, fr2, s2, f2, ws2, fun n hn => ?_, k2, k3, k4⟩
        rw [unf, h1 n (by omega)]
        show (bif (Nat.beq t.rd 0 && Nat.beq t.wr 0) then _ else _) = _
        rw [hz]
        simp only [cond_false]
        rw [clashes_eq rdone fun x hx => by
          obtain ⟨y, hy, hyr⟩ := hd x hx
          exact clash_no hyr hrd hwr hro (h7 y hy)]
        simp only [cond_false, fN_eq]
        exact k1 n (by omega)
    unfold wdraw at h
    cases hr : rsOf o f with
    | nought =>
      rw [hr] at h
      have hs1 : St ws ⟨s.heap, s.next, 0, 0⟩ := ⟨hs.h, hs.n, fun b hb => absurd hb (inM_zero b)⟩
      obtain ⟨N1, fr1, t, f1, wt, h1, h2, h3, h4, h5⟩ := wstep_ok hnt hok hlow (fun j b d _ hd => dlow j d hd) hag hs1 h
      rw [hr] at h5
      have h5 : t = ⟨s.heap, s.next, 0, 0⟩ := h5
      subst h5
      have h4 : wdraw P E (Wc P E mt orc) ops l (j + 1) done f1 ws K := h4
      obtain ⟨N2, fr2, s2, f2, ws2, k1, k2, k3, k4⟩ := wdraw_ok hnt hgs l hl' (j + 1) _ rdone fr1 f1 _ _ out K hd hout h2 hs h4
      refine ⟨max N1 N2, fr2, s2, f2, ws2, fun n hn => ?_, k2, k3, k4⟩
      rw [unf, h1 n (by omega)]
      exact k1 n (by omega)
    | addr a =>
      rw [hr] at h
      obtain ⟨N1, fr1, t, f1, wt, h1, h2, h3, h4, h5⟩ := wstep_ok hnt hok hlow (fun j b d _ hd => dlow j d hd) hag hs0 h
      rw [hr] at h5
      obtain ⟨q1, q2, q3, q4⟩ := h5
      obtain ⟨h6, h7⟩ := wclash_ok h4
      refine go (.addr a) (fun _ => False) ws N1 fr1 t f1 h1 h2 (fun b hb => ?_) (fun b hb => ?_) (fun _ => q3) h7 ⟨?_, ?_, fun b hb => ?_⟩ ⟨?_, ?_, fun b hb => hs.w b hb⟩ h6
      · rcases q4 b hb with e | e
        · exact absurd e (inM_zero b)
        · exact e
      · rw [q3] at hb; exact absurd hb (inM_zero b)
      · rw [q1]; exact hs.h
      · rw [q2]; exact hs.n
      · rcases (inM_lor _ _ b).1 hb with e | e
        · exact hs.w b e
        · rw [q3] at e; exact absurd e (inM_zero b)
      · rw [q1]; exact hs.h
      · rw [q2]; exact hs.n
    | all =>
      rw [hr] at h
      obtain ⟨N1, fr1, t, f1, wt, h1, h2, h3, h4, h5⟩ := wstep_ok hnt hok hlow (fun j b d _ hd => dlow j d hd) hag hs0 h
      obtain ⟨h6, h7⟩ := wclash_ok h4
      refine go .all wt.w (ws.j wt) N1 fr1 t f1 h1 h2 (fun b hb => trivial) h3.w (fun e => by cases e) h7 ⟨h3.h, h3.n, fun b hb => ?_⟩ ⟨h3.h, h3.n, fun b hb => .inl (hs.w b hb)⟩ (h6 _ rfl)
      rcases (inM_lor _ _ b).1 hb with e | e
      · exact .inl (hs.w b e)
      · exact .inr (h3.w b e)

/-! ### Code -/
theorem XPost.weak {x : XR} {L : LL} {kn kn' : WF → WS → Prop} {ke : Nat → WF → WS → Prop} {kr : WF → WS → Prop} (h : XPost x L kn ke kr) (hk : ∀ f s, kn f s → kn' f s) : XPost x L kn' ke kr := by
  cases x with
  | no => exact h
  | normal fr s => obtain ⟨f, ws, h1, h2, h3⟩ := h; exact ⟨f, ws, h1, h2, hk _ _ h3⟩
  | exit id fr s => exact h
  | ret fr s => exact h
structure LLow (L : LL) : Prop where
  n : Low L.n
  e : ∀ id, Low (lookE L.e id)
  r : Low L.r
theorem XPost.more {c : Code} {fr : Fr} {s : PS} {n m : Nat} {L : LL} {kn : WF → WS → Prop} {ke : Nat → WF → WS → Prop} {kr : WF → WS → Prop} (h : XPost (exec P E mt orc n c fr s) L kn ke kr) (hnm : n ≤ m) : XPost (exec P E mt orc m c fr s) L kn ke kr := by
  rcases exec_mono (P := P) (E := E) (mt := mt) (orc := orc) hnm c fr s with e | e
  · rw [e] at h; exact h.elim
  · rw [← e]; exact h
theorem lv_low {nt : Nat} (hnt : nt ≤ 256) : ∀ (c : Code) (L : LL), slotsOk nt c = true → LLow L → Low (lv c L)
  | .skip, L, hs, h => h.n
  | .seq a b, L, hs, h => by
    have hs' : (slotsOk nt a && slotsOk nt b) = true := hs
    rw [Bool.and_eq_true] at hs'
    exact lv_low hnt a _ hs'.1 ⟨lv_low hnt b L hs'.2 h, h.e, h.r⟩
  | .cond x a b, L, hs, h => by
    have hs' : (slotOk nt x && constOk x && slotsOk nt a && slotsOk nt b) = true := hs
    simp only [Bool.and_eq_true] at hs'
    intro t ht
    have ht' : t ∈ opdUse x (uniL (lv a L) (lv b L)) := ht
    have hin : ∀ t ∈ uniL (lv a L) (lv b L), t < 256 := fun t ht => by
      rcases mem_uniL.1 ht with e | e
      · exact lv_low hnt a L hs'.1.2 h t e
      · exact lv_low hnt b L hs'.2 h t e
    cases x with
    | tmp u =>
      rcases mem_insL.1 ht' with e | e
      · subst e; exact Nat.lt_of_lt_of_le (blt_lt hs'.1.1.1) hnt
      · exact hin t e
    | _ => exact hin t ht'
  | .block id b, L, hs, h => lv_low hnt b _ hs ⟨h.n, fun k => by
      show Low (bif Nat.beq id k then L.n else lookE L.e k)
      cases Nat.beq id k with
      | true => exact h.n
      | false => exact h.e k, h.r⟩
  | .loop b, L, hs, h => lv_low hnt b _ hs ⟨fun t ht => (by cases ht), h.e, h.r⟩
  | .exit id, L, hs, h => h.e id
  | .ret, L, hs, h => h.r
  | .region _ ops _, L, hs, h => by
    have hok : ∀ o ∈ ops.toList, operOk nt o = true := List.all_eq_true.1 hs
    exact lvLow hnt (dlow_of hnt hok) h.n _ hok
  | .rangeFunc _ _ _ _, L, hs, h => fun t ht => by cases ht
  | .scope _, L, hs, h => fun t ht => by cases ht
  | .label _, L, hs, h => fun t ht => by cases ht
  | .goto _, L, hs, h => fun t ht => by cases ht
  | .refuse _, L, hs, h => fun t ht => by cases ht
theorem maskK_ok {ops : Array Oper} {L : List Nat} {kn : WF → WS → Prop} {fr : Fr} {f : WF} {s : WS} (ha : Ag L fr f) (h : maskK ops L kn f s) : ∃ f', Ag L fr f' ∧ kn f' s := by
  unfold maskK at h
  cases hg : (ops.toList.any fun o => o.guard.isSome) with
  | true => rw [hg] at h; exact ⟨_, ha.mask, h⟩
  | false => rw [hg] at h; exact ⟨_, ha, h⟩
theorem wx_ok {nt : Nat} (hnt : nt ≤ 256) : ∀ (c : Code) (L : LL) (hs : slotsOk nt c = true) (hL : LLow L) (fr : Fr) (f : WF) (s : PS) (ws : WS) (kn : WF → WS → Prop) (ke : Nat → WF → WS → Prop) (kr : WF → WS → Prop),
    Ag (lv c L) fr f → St ws s → wx P E mt orc c L f ws kn ke kr → ∃ N, XPost (exec P E mt orc N c fr s) L kn ke kr
  | .skip, L, hs, hL, fr, f, s, ws, kn, ke, kr, ha, hst, h => ⟨1, f, ws, ha, hst, h⟩
  | .exit id, L, hs, hL, fr, f, s, ws, kn, ke, kr, ha, hst, h => ⟨1, f, ws, ha, hst, h⟩
  | .ret, L, hs, hL, fr, f, s, ws, kn, ke, kr, ha, hst, h => ⟨1, f, ws, ha, hst, h⟩
  | .seq a b, L, hs, hL, fr, f, s, ws, kn, ke, kr, ha, hst, h => by
    have hs' : (slotsOk nt a && slotsOk nt b) = true := hs
    rw [Bool.and_eq_true] at hs'
    obtain ⟨N1, h1⟩ := wx_ok hnt a { L with n := lv b L } hs'.1 ⟨lv_low hnt b L hs'.2 hL, hL.e, hL.r⟩ fr f s ws _ ke kr ha hst h
    cases hx : exec P E mt orc N1 a fr s with
    | no => rw [hx] at h1; exact h1.elim
    | normal fr1 s1 =>
      rw [hx] at h1
      obtain ⟨f1, ws1, g1, g2, g3⟩ := h1
      obtain ⟨N2, h2⟩ := wx_ok hnt b L hs'.2 hL fr1 f1 s1 ws1 kn ke kr g1 g2 g3
      refine ⟨max N1 N2 + 1, ?_⟩
      show XPost (XR.rec (motive := fun _ => XR) .no (exec P E mt orc (max N1 N2) b) (fun id fr s => .exit id fr s) (fun fr s => .ret fr s) (exec P E mt orc (max N1 N2) a fr s)) L kn ke kr
      rcases exec_mono (P := P) (E := E) (mt := mt) (orc := orc) (Nat.le_max_left N1 N2) a fr s with e | e
      · rw [hx] at e; cases e
      · rw [← e, hx]
        exact h2.more (Nat.le_max_right N1 N2)
    | exit id fr1 s1 =>
      refine ⟨N1 + 1, ?_⟩
      show XPost (XR.rec (motive := fun _ => XR) .no (exec P E mt orc N1 b) (fun id fr s => .exit id fr s) (fun fr s => .ret fr s) (exec P E mt orc N1 a fr s)) L kn ke kr
      rw [hx] at h1 ⊢
      exact h1
    | ret fr1 s1 =>
      refine ⟨N1 + 1, ?_⟩
      show XPost (XR.rec (motive := fun _ => XR) .no (exec P E mt orc N1 b) (fun id fr s => .exit id fr s) (fun fr s => .ret fr s) (exec P E mt orc N1 a fr s)) L kn ke kr
      rw [hx] at h1 ⊢
      exact h1
  | .cond x a b, L, hs, hL, fr, f, s, ws, kn, ke, kr, ha, hst, h => by
    have hs' : (slotOk nt x && constOk x && slotsOk nt a && slotsOk nt b) = true := hs
    simp only [Bool.and_eq_true] at hs'
    have h : (bif constOk x then wb (wopd x f) (wx P E mt orc a L f ws (fun f s => kn (mask L.n f) s) ke kr) (wx P E mt orc b L f ws (fun f s => kn (mask L.n f) s) ke kr) else False) := h
    rw [hs'.1.1.2] at h
    simp only [cond_true] at h
    have hsub : ∀ t, t ∈ uniL (lv a L) (lv b L) → t ∈ lv (.cond x a b) L := fun t ht => opdUse_sub ht
    have hx : opd x fr = wopd x f := by
      cases x with
      | tmp u => exact ha u opdUse_mem
      | _ => rfl
    have fin : ∀ (c : Code), (∃ N, XPost (exec P E mt orc N c fr s) L (fun f s => kn (mask L.n f) s) ke kr) → (∀ N, XPost (exec P E mt orc N c fr s) L kn ke kr → ∃ N, XPost (exec P E mt orc N (.cond x a b) fr s) L kn ke kr) → ∃ N, XPost (exec P E mt orc N (.cond x a b) fr s) L kn ke kr := fun c ⟨N, hN⟩ hc => hc N (by
      cases hxx : exec P E mt orc N c fr s with
      | no => rw [hxx] at hN; exact hN.elim
      | normal fr1 s1 => rw [hxx] at hN; obtain ⟨f1, ws1, g1, g2, g3⟩ := hN; exact ⟨mask L.n f1, ws1, g1.mask, g2, g3⟩
      | exit id fr1 s1 => rw [hxx] at hN; exact hN
      | ret fr1 s1 => rw [hxx] at hN; exact hN)
    unfold wb at h
    split at h
    · rename_i t hv
      cases t with
      | true =>
        have ih := wx_ok hnt a L hs'.1.2 hL fr f s ws _ ke kr (ha.sub fun t ht => hsub t (mem_uniL.2 (.inl ht))) hst h
        refine fin a ih fun N hN => ⟨N + 1, ?_⟩
        show XPost (Option.rec (motive := fun _ => XR) .no (fun t => Bool.rec (motive := fun _ => XR) (exec P E mt orc N b fr s) (exec P E mt orc N a fr s) t) (vB (opd x fr))) L kn ke kr
        rw [hx, hv]
        exact hN
      | false =>
        have ih := wx_ok hnt b L hs'.2 hL fr f s ws _ ke kr (ha.sub fun t ht => hsub t (mem_uniL.2 (.inr ht))) hst h
        refine fin b ih fun N hN => ⟨N + 1, ?_⟩
        show XPost (Option.rec (motive := fun _ => XR) .no (fun t => Bool.rec (motive := fun _ => XR) (exec P E mt orc N b fr s) (exec P E mt orc N a fr s) t) (vB (opd x fr))) L kn ke kr
        rw [hx, hv]
        exact hN
    · exact h.elim
  | .block id b, L, hs, hL, fr, f, s, ws, kn, ke, kr, ha, hst, h => by
    have hL' : LLow { L with e := (id, L.n) :: L.e } := ⟨hL.n, fun k => by
      show Low (bif Nat.beq id k then L.n else lookE L.e k)
      cases Nat.beq id k with
      | true => exact hL.n
      | false => exact hL.e k, hL.r⟩
    obtain ⟨N, h1⟩ := wx_ok hnt b { L with e := (id, L.n) :: L.e } hs hL' fr f s ws _ _ kr ha hst h
    refine ⟨N + 1, ?_⟩
    show XPost (XR.rec (motive := fun _ => XR) .no (fun fr s => .normal fr s) (fun k fr s => bif Nat.beq k id then .normal fr s else .exit k fr s) (fun fr s => .ret fr s) (exec P E mt orc N b fr s)) L kn ke kr
    cases hx : exec P E mt orc N b fr s with
    | no => rw [hx] at h1; exact h1.elim
    | normal fr1 s1 => rw [hx] at h1; obtain ⟨f1, ws1, g1, g2, g3⟩ := h1; exact ⟨mask L.n f1, ws1, g1.mask, g2, g3⟩
    | ret fr1 s1 => rw [hx] at h1; exact h1
    | exit k fr1 s1 =>
      rw [hx] at h1
      obtain ⟨f1, ws1, g1, g2, g3⟩ := h1
      have g1 : Ag (bif Nat.beq id k then L.n else lookE L.e k) fr1 f1 := g1
      show XPost (bif Nat.beq k id then .normal fr1 s1 else .exit k fr1 s1) L kn ke kr
      have hcomm : Nat.beq id k = Nat.beq k id := by
        cases h1 : Nat.beq id k with
        | true => have := Nat.eq_of_beq_eq_true h1; subst this; exact (Nat.beq_refl _).symm
        | false =>
          cases h2 : Nat.beq k id with
          | true => have := Nat.eq_of_beq_eq_true h2; subst this; rw [Nat.beq_refl] at h1; cases h1
          | false => rfl
      rw [hcomm] at g1
      cases hk : Nat.beq k id with
      | true => rw [hk] at g1 g3; exact ⟨mask L.n f1, ws1, g1.mask, g2, g3⟩
      | false => rw [hk] at g1 g3; exact ⟨f1, ws1, g1, g2, g3⟩
  | .loop b, L, hs, hL, fr, f, s, ws, kn, ke, kr, ha, hst, h => by
    have h : (bif subL (lv b { L with n := lv (.loop b) L }) (lv (.loop b) L) then WLoop P E mt orc b L (mask (lv (.loop b) L) f) ws ke kr else False) := h
    cases hsub : subL (lv b { L with n := lv (.loop b) L }) (lv (.loop b) L) with
    | false => rw [hsub] at h; exact h.elim
    | true =>
      rw [hsub] at h
      obtain ⟨N, hN⟩ := (show WLoop P E mt orc b L (mask (lv (.loop b) L) f) ws ke kr from h) fr s ha.mask hst
      exact ⟨N, hN.weak fun _ _ h => h.elim⟩
  | .region id ops false, L, hs, hL, fr, f, s, ws, kn, ke, kr, ha, hst, h => by
    have hok : ∀ o ∈ ops.toList, operOk nt o = true := List.all_eq_true.1 hs
    obtain ⟨N, fr1, s1, f1, ws1, h1, h2, h3, h4⟩ := wtext_ok hnt hok ops.toList hok fr f ws s L.n _ hL.n ha hst h
    obtain ⟨f2, h5, h6⟩ := maskK_ok h2 h4
    refine ⟨N + 1, ?_⟩
    show XPost (OR.rec (motive := fun _ => XR) .no (fun fr s => .normal fr s) (opsText P E mt ops ops.toList (runCall P E mt orc N) fr s)) L kn ke kr
    rw [h1 N (Nat.le_refl _)]
    exact ⟨f2, ws1, h5, h3, h6⟩
  | .region id ops true, L, hs, hL, fr, f, s, ws, kn, ke, kr, ha, hst, h => by
    have hok : ∀ o ∈ ops.toList, operOk nt o = true := List.all_eq_true.1 hs
    have h : (bif apartOk ops (aheads ops.toList []) then wdraw P E (Wc P E mt orc) ops (ops.toList.zip (aheads ops.toList [])) 0 [] f ws (maskK ops L.n kn) else False) := h
    cases hap : apartOk ops (aheads ops.toList []) with
    | false => rw [hap] at h; exact h.elim
    | true =>
      rw [hap] at h
      have hlen : ∀ (l : List Oper) (acc : List Nat), (aheads l acc).length = acc.length + l.length := fun l => by
        induction l with
        | nil => intro acc; simp [aheads]
        | cons o l ih => intro acc; show (aheads l (acc ++ [aheadOf acc o])).length = _; rw [ih]; simp; omega
      have hmap : (ops.toList.zip (aheads ops.toList [])).map (·.1) = ops.toList := by
        rw [List.map_fst_zip]
        rw [hlen]; simp
      obtain ⟨N, fr1, s1, f1, ws1, h1, h2, h3, h4⟩ := wdraw_ok hnt hok (ops.toList.zip (aheads ops.toList [])) (fun x hx => hok x.1 (by have := List.mem_map_of_mem (f := Prod.fst) hx; rw [hmap] at this; exact this)) 0 [] [] fr f ws s L.n _ (fun x hx => by cases hx) hL.n (by rw [hmap]; exact ha) hst h
      obtain ⟨f2, h5, h6⟩ := maskK_ok h2 h4
      refine ⟨N + 1, ?_⟩
      show XPost ((bif apartOk ops (aheads ops.toList []) then
            fun ih fr s => OR.rec (motive := fun _ => XR) .no (fun fr s => .normal fr s) (opsDraw P E mt ops (ops.toList.zip (aheads ops.toList [])) 0 [] (callBy P E orc ih) fr s)
            else fun _ _ _ => .no : (Code → Fr → PS → XR) → Fr → PS → XR) (exec P E mt orc N) fr s) L kn ke kr
      rw [hap]
      simp only [cond_true]
      have := h1 N (Nat.le_refl _)
      unfold runCall at this
      rw [this]
      exact ⟨f2, ws1, h5, h3, h6⟩
  | .rangeFunc _ _ _ _, L, hs, hL, fr, f, s, ws, kn, ke, kr, ha, hst, h => (show False from h).elim
  | .scope _, L, hs, hL, fr, f, s, ws, kn, ke, kr, ha, hst, h => (show False from h).elim
  | .label _, L, hs, hL, fr, f, s, ws, kn, ke, kr, ha, hst, h => (show False from h).elim
  | .goto _, L, hs, hL, fr, f, s, ws, kn, ke, kr, ha, hst, h => (show False from h).elim
  | .refuse _, L, hs, hL, fr, f, s, ws, kn, ke, kr, ha, hst, h => (show False from h).elim

/-- A round of a loop. -/
theorem wloop_step {nt : Nat} (hnt : nt ≤ 256) {b : Code} {L : LL} (hs : slotsOk nt b = true) (hL : LLow L) (hsub : subL (lv b { L with n := lv (.loop b) L }) (lv (.loop b) L) = true) {f : WF} {ws : WS} {ke : Nat → WF → WS → Prop} {kr : WF → WS → Prop}
    (h : wx P E mt orc b { L with n := lv (.loop b) L } f ws (fun f s => WLoop P E mt orc b L (mask (lv (.loop b) L) f) s ke kr) ke kr) : WLoop P E mt orc b L f ws ke kr := by
  intro fr s ha hst
  have hsub' : ∀ t ∈ lv b { L with n := lv (.loop b) L }, t ∈ lv (.loop b) L := fun t ht => by
    have := List.all_eq_true.1 hsub t ht
    obtain ⟨u, hu, hut⟩ := List.any_eq_true.1 this
    rw [← Nat.eq_of_beq_eq_true hut]; exact hu
  obtain ⟨N1, h1⟩ := wx_ok hnt b { L with n := lv (.loop b) L } hs ⟨lv_low hnt (.loop b) L hs hL, hL.e, hL.r⟩ fr f s ws _ ke kr (ha.sub hsub') hst h
  cases hx : exec P E mt orc N1 b fr s with
  | no => rw [hx] at h1; exact h1.elim
  | normal fr1 s1 =>
    rw [hx] at h1
    obtain ⟨f1, ws1, g1, g2, g3⟩ := h1
    obtain ⟨N2, h2⟩ := g3 fr1 s1 (Ag.mask g1) g2
    refine ⟨max N1 N2 + 1, ?_⟩
    show XPost (XR.rec (motive := fun _ => XR) .no (exec P E mt orc (max N1 N2) (.loop b)) (fun id fr s => .exit id fr s) (fun fr s => .ret fr s) (exec P E mt orc (max N1 N2) b fr s)) L _ ke kr
    rcases exec_mono (P := P) (E := E) (mt := mt) (orc := orc) (Nat.le_max_left N1 N2) b fr s with e | e
    · rw [hx] at e; cases e
    · rw [← e, hx]
      exact h2.more (Nat.le_max_right N1 N2)
  | exit id fr1 s1 =>
    refine ⟨N1 + 1, ?_⟩
    show XPost (XR.rec (motive := fun _ => XR) .no (exec P E mt orc N1 (.loop b)) (fun id fr s => .exit id fr s) (fun fr s => .ret fr s) (exec P E mt orc N1 b fr s)) L _ ke kr
    rw [hx] at h1 ⊢
    exact h1
  | ret fr1 s1 =>
    refine ⟨N1 + 1, ?_⟩
    show XPost (XR.rec (motive := fun _ => XR) .no (exec P E mt orc N1 (.loop b)) (fun id fr s => .exit id fr s) (fun fr s => .ret fr s) (exec P E mt orc N1 b fr s)) L _ ke kr
    rw [hx] at h1 ⊢
    exact h1
end
end Go.Proofs.YtoimffkejoeadaaGreatDoor.Vm
