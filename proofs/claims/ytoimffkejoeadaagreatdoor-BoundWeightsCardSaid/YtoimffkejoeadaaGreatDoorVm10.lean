/- The machine of our own: what an operation answers, the real operation answers. Part 6: append. -/
import Derived.Test.YtoimffkejoeadaaGreatDoorVm9
namespace Go.Proofs.YtoimffkejoeadaaGreatDoor.Vm
open Go Go.RowKit
set_option linter.unusedVariables false
set_option linter.unusedSimpArgs false

section
variable {P : Program} {W0 : World} {E : Addr → Option Value} {o : Oper} {fr : Fr} {s : PS}

theorem run_append_in {ts : Array TypeId} {t0 t1 ty e : TypeId} {i : TypeInfo} {xd : TypeDesc} {sv xv : Value} {base : Option Addr} {sLen sCap n : Nat} {arr : List Value} {W W' : World}
    (h0 : ts[0]? = some t0) (h1 : ts[1]? = some t1) (hu0 : P.underlying t0 = some (.slice e)) (hu1 : P.underlying t1 = some xd) (hx : ∀ k, xd ≠ .int k) (hi : P.info? e = some i)
    (hs : sv = .slice base sLen sCap) (hn : (Builtin.lenOf xv).run P W = .ok n W) (hneed : sLen + n ≤ sCap) (hf : (Builtin.firstCells i.size n xv).run P W = .ok ⟨arr⟩ W)
    (hst : (match base with | some a => (storeCells (a.add (sLen * i.size)) arr).run P W | none => .ok () W) = .ok () W') :
    (Builtin.append_ ts ty ⟨[sv, xv]⟩).run P W = .ok (.slice base (sLen + n) sCap) W' := by
  subst hs
  have hz : (match xd with | .int _ => true | _ => false) = false := by cases xd <;> first | rfl | exact absurd rfl (hx _)
  cases base with
  | none =>
    simp only at hst
    injection hst with _ hst
    subst hst
    simp [Builtin.append_, h0, h1, run_underlying hu0, run_underlying hu1, hz, sizeOf, typeInfo, hi, hn, hneed, hf]
  | some a =>
    simp only at hst
    simp [Builtin.append_, h0, h1, run_underlying hu0, run_underlying hu1, hz, sizeOf, typeInfo, hi, hn, hneed, hf, hst]

theorem run_append_new {ts : Array TypeId} {t0 t1 ty e : TypeId} {i : TypeInfo} {z : Value} {xd : TypeDesc} {sv xv : Value} {base : Option Addr} {sLen sCap n : Nat} {old arr : List Value} {W : World}
    (h0 : ts[0]? = some t0) (h1 : ts[1]? = some t1) (hu0 : P.underlying t0 = some (.slice e)) (hu1 : P.underlying t1 = some xd) (hx : ∀ k, xd ≠ .int k) (hi : P.info? e = some i) (hz : i.zero = some z)
    (hs : sv = .slice base sLen sCap) (hn : (Builtin.lenOf xv).run P W = .ok n W) (hneed : sCap < sLen + n) (hb : i.bytes ≠ 0) (hfit : (2 * (sLen + n) + 1000) * i.bytes ≤ 281474976710656)
    (hfo : (Builtin.firstCells i.size sLen sv).run P W.drew = .ok ⟨old⟩ W.drew) (hf : (Builtin.firstCells i.size n xv).run P W.drew = .ok ⟨arr⟩ W.drew) :
    (Builtin.append_ ts ty ⟨[sv, xv]⟩).run P W = .ok (.slice (some ⟨W.heap.size, 0, none⟩) (sLen + n) (grownCap W (sLen + n) sCap e))
      (W.drew.alloc (.cells (⟨old⟩ ++ ⟨arr⟩ ++ Builtin.zeroCells z.cells (grownCap W (sLen + n) sCap e - (sLen + n))) e)) := by
  have hz' : (match xd with | .int _ => true | _ => false) = false := by cases xd <;> first | rfl | exact absurd rfl (hx _)
  have hnn : ¬ (sLen + n ≤ sCap) := by omega
  have hcap : Builtin.nextslicecap (sLen + n) sCap * i.bytes ≤ 281474976710656 := by
    refine Nat.le_trans (Nat.mul_le_mul_right _ ?_) hfit
    have := nextslicecap_le hneed
    omega
  have h48 : ¬ (281474976710656 < Builtin.nextslicecap (sLen + n) sCap * i.bytes) := by omega
  subst hs
  simp [Builtin.append_, h0, h1, run_underlying hu0, run_underlying hu1, hz', sizeOf, typeInfo, zeroValue, hi, hz, hn, hnn, hb, h48, Question.forced, hfo, hf, newRow, grownCap]
  congr 2
  apply Array.ext'
  simp

theorem LR.ofList {ι : Nat → Option Info} {l : List Value} {rc : List Value} (h : LR ι l rc) (more : Array Value) (j : Nat) (u : Value) (hu : l[j]? = some u) : ∃ v, ((⟨rc⟩ : Array Value) ++ more)[j]? = some v ∧ VR ι u v := by
  obtain ⟨v, hv, hr⟩ := h.at hu
  refine ⟨v, ?_, hr⟩
  have hlt : j < rc.length := (List.getElem?_eq_some_iff.1 hv).1
  rw [Array.getElem?_append_left (by simpa using hlt)]
  simpa using hv

variable (hE : ∀ a v, E a = some v → W0.cell? a = some v ∧ atom v = true)
include hE
theorem grow_ok {γ : Type} {no : γ} {k : Value → PS → γ} {c : Call} {t0 t1 elem : TypeId} {i : TypeInfo} {z : Value} {xd : TypeDesc} {s0 x0 : Operand} {base : Option Addr} {ln cap n : Nat} {new : List Value} {s1 : PS}
    (ho : o.op = .call c) (hc : c.callee = .builtin .append) (h0 : c.argTypes[0]? = some t0) (h1 : c.argTypes[1]? = some t1) (hx : c.args.toList = [s0, x0]) (hu0 : P.underlying t0 = some (.slice elem)) (hu1 : P.underlying t1 = some xd)
    (hxd : ∀ k, xd ≠ .int k) (hi : P.info? elem = some i) (hz : i.zero = some z) (hzs : z.cells.size = i.size) (hs : opd s0 fr = .slice base ln cap) (hn : pLen (opd x0 fr) = some n) (H : FirstAt P W0 s i.size n (opd x0 fr) new s1) :
    Ans no k (Ok P W0 o fr s) (pGrow no E s1 elem i.size i.bytes base ln cap n new k) := by
  have ops : ∀ (ι : Nat → Option Info) (ρ : Operand → Value), (∀ y ∈ o.op.operands, VR ι (opd y fr) (ρ y)) → VR ι (opd s0 fr) (ρ s0) ∧ VR ι (opd x0 fr) (ρ x0) :=
    fun ι ρ hρ => ⟨hρ _ (arg_mem ho (by simp [hx])), hρ _ (arg_mem ho (by simp [hx]))⟩
  have hlen : ∀ (ι : Nat → Option Info) r, VR ι (opd x0 fr) r → ∀ W, (Builtin.lenOf r).run P W = .ok n W := fun ι r hr W => by
    generalize opd x0 fr = v at hr hn
    unfold pLen at hn
    split at hn
    · injection hn with hn0; subst hn0
      obtain ⟨a', c', rfl⟩ := hr.slen
      rfl
    · injection hn with hn0; subst hn0
      rw [VR.atom_eq rfl hr]
      rfl
    · cases hn
  have runOf : ∀ (ρ : Operand → Value) (W W' : World) (r : Value), (Builtin.append_ c.argTypes o.type ⟨[ρ s0, ρ x0]⟩).run P W = .ok r W' → (execOp ρ o).run P W = .ok (.value r) W' := fun ρ W W' r h => by
    obtain ⟨cs, e⟩ := run_builtin ho hc ρ W
    rw [e, args_eq hx]
    exact run_v h
  unfold pGrow
  refine Ans.cond' fun hb => ?_
  rw [fN_eq]
  simp only [Bool.and_eq_true, Bool.not_eq_true'] at hb
  obtain ⟨⟨⟨⟨hb1, hb2⟩, hb3⟩, hb4⟩, hb5⟩ := hb
  have hb1 := Nat.eq_of_beq_eq_true hb1
  rw [len_eq] at hb1
  have hb2 := (ones_eq new).1 hb2
  have hb3 := Nat.ne_of_beq_eq_false hb3
  have hb4 := Nat.le_of_ble_eq_true hb4
  have hb5 := Nat.ne_of_beq_eq_false hb5
  -- the real machine makes a new row
  have fresh : ∀ (M : Nat → Prop) (ι : Nat → Option Info) (ρ : Operand → Value) (W : World) (h : Nat → Option PB) (m : Nat) (old old' : List Value) (base' : Option Addr) (cap' : Nat), RH W0 ι M h W → ι m = none →
      VR ι (opd x0 fr) (ρ x0) → ρ s0 = .slice base' ln cap' → cap' < ln + n → LR ι old old' → old.length = ln * i.size → (Builtin.firstCells i.size ln (ρ s0)).run P W.drew = .ok ⟨old'⟩ W.drew →
      (∃ new', LR ι new new' ∧ (Builtin.firstCells i.size n (ρ x0)).run P W.drew = .ok ⟨new'⟩ W.drew) →
      ∃ W' ι' c', (execOp ρ o).run P W = .ok (.value (.slice (some ⟨W.heap.size, 0, none⟩) (ln + n) c')) W' ∧ VR ι' (.slice (some (here m 0)) (ln + n) (ln + n)) (.slice (some ⟨W.heap.size, 0, none⟩) (ln + n) c') ∧
        Post W0 M ι h W m ι' (upd h m (some ⟨old ++ new, elem, i.size⟩)) W' (m + 1) := by
    intro M ι ρ W h m old old' base' cap' hR hm hx0 hs0 hcap hoo hol hfo ⟨new', hnn, hfn⟩
    have hge := grownCap_ge W (ln + n) cap' elem
    have hrun := run_append_new (ty := o.type) h0 h1 hu0 hu1 hxd hi hz hs0 (hlen ι _ hx0 W) hcap hb3 hb4 hfo hfn
    have hcells : (old ++ new).length = (ln + n) * i.size := by rw [List.length_append, hol, hb1, Nat.add_mul]
    have hsize : ((⟨old'⟩ : Array Value) ++ ⟨new'⟩ ++ Builtin.zeroCells z.cells (grownCap W (ln + n) cap' elem - (ln + n))).size = grownCap W (ln + n) cap' elem * i.size := by
      simp only [Array.size_append, List.size_toArray, size_zeroCells, hzs]
      rw [← hoo.1, ← hnn.1, hol, hb1, ← Nat.add_mul, ← Nat.add_mul]
      congr 1
      omega
    have hp := Post.made hR.drew hm (old ++ new) ((⟨old'⟩ : Array Value) ++ ⟨new'⟩ ++ Builtin.zeroCells z.cells (grownCap W (ln + n) cap' elem - (ln + n))) elem i.size
      (by rw [hsize, hcells]; exact Nat.mul_le_mul_right _ hge)
      (fun j u hu => by
        rw [show (⟨old'⟩ : Array Value) ++ ⟨new'⟩ = ⟨old' ++ new'⟩ from by apply Array.ext'; simp]
        exact LR.ofList (rc := old' ++ new') (hoo.append hnn) _ j u hu)
    refine ⟨_, _, _, runOf ρ W _ _ hrun, ?_, (Post.drew hR m m).trans hp (Nat.le_refl _) (by omega)⟩
    refine VR.slc (upd_same _ _ _) (Nat.le_refl _) hge (fun hlt => ?_) ?_ (fun _ => rfl) ?_
    · simp only [hcells] at hlt; omega
    · simp only [hcells]; omega
    · simp only [hsize]; omega
  cases base with
  | none =>
    refine Ans.cond' fun hz0 => ?_
    simp only [Bool.and_eq_true] at hz0
    have hln := Nat.eq_of_beq_eq_true hz0.1
    have hcp := Nat.eq_of_beq_eq_true hz0.2
    subst hln
    subst hcp
    refine Ans.cond (fun hneed => ?_) fun hneed => ?_
    · have hn0 := Nat.eq_of_beq_eq_true hneed
      have hn0 : n = 0 := by omega
      subst hn0
      refine Ans.yes ⟨H.pl, fun M hM ι ρ W hR hρ hF => ?_⟩
      obtain ⟨hs0, hx0⟩ := ops ι ρ hρ
      rw [hs] at hs0
      obtain ⟨new', h2, h3⟩ := H.get M hM ι W hR _ hx0
      have hrun := run_append_in (ty := o.type) (W' := W) h0 h1 hu0 hu1 hxd hi (VR.atom_eq rfl hs0) (hlen ι _ hx0 W) (Nat.le_refl _) h3 rfl
      refine Does.value (runOf ρ W W _ hrun) ⟨ι, .atom rfl, ?_⟩
      rw [H.heap]; exact Post.refl hR _ _
    · have hneed := Nat.ne_of_beq_eq_false hneed
      refine made_ok <| Ans.yes ⟨H.pl.trans (PL.made s1 _ _ _), fun M hM ι ρ W hR hρ hF => ?_⟩
      obtain ⟨hs0, hx0⟩ := ops ι ρ hρ
      rw [hs] at hs0
      have hM1 : MaskIn s1 M := hM.back (PL.made s1 _ _ _)
      have hsr := VR.atom_eq rfl hs0
      have hfr : ι s1.next = none := hF s1.next (by rw [H.next]; exact Nat.le_refl _) (by simp [PS.with])
      obtain ⟨W', ι', c', g1, g2, g3⟩ := fresh M ι ρ W (hv s.heap) s1.next [] [] none 0 hR hfr hx0 hsr (by omega) .nil (by simp) (by rw [hsr]; exact cells_nil _ _ (by simp) _ ⟨_, _, _, rfl⟩ _) (H.get M hM1 ι W.drew hR.drew _ hx0)
      rw [Nat.zero_add] at g1 g2
      rw [Nat.zero_add]
      refine Does.value g1 ⟨ι', g2, ?_⟩
      show Post W0 M ι (hv s.heap) W s.next ι' (hv (putH s1.next _ s1.heap)) W' (s1.next + 1)
      rw [hv_put, H.heap, ← H.next]
      exact g3
  | some a =>
    obtain ⟨b, off, sp⟩ := a
    cases sp with
    | none => exact .not
    | some sp =>
      refine Ans.onO fun pb hpb => Ans.cond' fun hcc => ?_
      simp only [Bool.and_eq_true] at hcc
      obtain ⟨hst, hel⟩ := hcc
      have hst := Nat.eq_of_beq_eq_true hst
      have hel := Nat.eq_of_beq_eq_true hel
      have hpb' : hv s.heap b = some pb := by rw [← H.heap]; simp [hv, hpb]
      refine Ans.cond (fun hneed => ?_) fun hneed => ?_
      · have hneed := Nat.le_of_ble_eq_true hneed
        refine put_ok (P := P) (W0 := W0) fun s2 K => Ans.yes ⟨H.pl.trans K.pl, fun M hM ι ρ W hR hρ hF => ?_⟩
        obtain ⟨hs0, hx0⟩ := ops ι ρ hρ
        rw [hs] at hs0
        obtain ⟨new', h2, h3⟩ := H.get M (hM.back K.pl) ι W hR _ hx0
        rcases hs0.of_slc with ⟨h4, h5⟩ | ⟨b', off', j, ro, c', heq, g2, g3, g4, g5, g6, g7, g8, g9⟩
        · cases h4
        · injection heq with e1 e2 e3
          subst e1
          subst e2
          obtain ⟨W', h4, h5⟩ := K.put M hM ι W (by rw [H.heap]; exact hR) _ (.own g3) new' h2
          rw [H.heap, H.next] at h5
          refine Does.value (runOf ρ W W' _ (run_append_in (ty := o.type) (W' := W') h0 h1 hu0 hu1 hxd hi g2 (hlen ι _ hx0 W) (by omega) h3 ?_)) ⟨ι, VR.slc g3 hneed g5 g6 g7 g8 g9, h5⟩
          simp only
          rcases Nat.eq_zero_or_pos cap with hz' | hz'
          · have hn0 : n = 0 := by omega
            subst hn0
            have := first_zero h3
            subst this
            exact h4
          · rw [g8 hz', add_none, Nat.add_assoc]
            exact h4
      · have hneed : cap < ln + n := Nat.lt_of_not_le fun h => by rw [Nat.ble_eq_true_of_le h] at hneed; cases hneed
        refine cells_ok (P := P) hE (a := here b off) fun old s2 K => ?_
        have hrd := K.own (by simp [here])
        have hMs : ∀ M, MaskIn s2 M → M b := fun M hM => hM b (.inl hrd)
        have hsn : s2.next = s.next := K.next.trans H.next
        have hsh : s2.heap = s.heap := K.heap.trans H.heap
        have read : ∀ (M : Nat → Prop), MaskIn s2 M → ∀ (ι : Nat → Option Info) (ρ : Operand → Value) (W : World), RH W0 ι M (hv s.heap) W → VR ι (.slice (some ⟨b, off, some sp⟩) ln cap) (ρ s0) → ∃ old', LR ι old old' ∧ (Builtin.firstCells i.size ln (ρ s0)).run P W = .ok ⟨old'⟩ W := fun M hM ι ρ W hR hs0 => by
          have he : (⟨b, off, some sp⟩ : Addr) = here b off := by
            rcases hs0.of_slc with ⟨h4, h5⟩ | ⟨b', off', j, ro, c', heq, _⟩
            · cases h4
            · injection heq with e1 e2 e3
              subst e1; subst e2; injection e3 with e3; subst e3; rfl
          rw [he] at hs0
          exact (first_own (len := ln) (c := cap) K (Nat.le_refl _)).get M hM ι W (by rw [H.heap]; exact hR) _ hs0
        have holdlen : ∀ M, MaskIn s2 M → ∀ ι W, RH W0 ι M (hv s.heap) W → ∀ j, ι b = some j → old.length = ln * i.size := fun M hM ι W hR j hj => by
          obtain ⟨l', q1, q2, q3⟩ := K.get M hM ι W (by rw [H.heap]; exact hR) _ (.own hj)
          rw [q2.1, q1]
        refine Ans.cond (fun hk => ?_) fun hk => ?_
        · have hk := Nat.eq_of_beq_eq_true hk
          rw [len_eq] at hk
          rw [kill_eq, catK_eq]
          generalize hs3 : (⟨putH b none s2.heap, s2.next, s2.rd, Nat.lor s2.wr (bit b)⟩ : PS) = s3
          have hpl3 : PL s2 s3 := by rw [← hs3]; exact PL.write s2 b none
          have hn3 : s3.next = s.next := by rw [← hs3]; exact hsn
          have hh3 : hv s3.heap = upd (hv s.heap) b none := by rw [← hs3]; show hv (putH b none s2.heap) = _; rw [hv_put, hsh]
          refine made_ok <| Ans.yes ⟨H.pl.trans (K.pl.trans (hpl3.trans (PL.made s3 _ _ _))), fun M hM ι ρ W hR hρ hF => ?_⟩
          obtain ⟨hs0, hx0⟩ := ops ι ρ hρ
          rw [hs] at hs0
          have hM3 : MaskIn s3 M := hM.back (PL.made s3 _ _ _)
          have hM2 : MaskIn s2 M := hM3.back hpl3
          have hM1 : MaskIn s1 M := hM2.back K.pl
          have hMb := hMs M hM2
          have hfr : ι s3.next = none := hF s3.next (by rw [hn3]; exact Nat.le_refl _) (by simp [PS.with])
          have hMn : M s3.next := hM s3.next (.inr ((inM_lor _ _ _).2 (.inr (inM_bit _))))
          have hfin : ∀ (c : List Value) e st, hv (s3.with c e st).heap = upd (upd (hv s.heap) b none) s3.next (some ⟨c, e, st⟩) := fun c e st => by
            show hv (putH s3.next _ s3.heap) = _
            rw [hv_put, hh3]
          rcases hs0.of_slc with ⟨h4, h5⟩ | ⟨b', off', j, ro, c', heq, g2, g3, g4, g5, g6, g7, g8, g9⟩
          · cases h4
          · injection heq with e1 e2 e3
            subst e1
            subst e2
            have hol := holdlen M hM2 ι W hR j g3
            by_cases hroom : ln + n ≤ c'
            · obtain ⟨j', rc, fz, hj', hg, hfz, hB, hp, hr, hstr, hfit, hcell⟩ := hR.blk b pb hMb hpb'
              rw [g3] at hj'
              injection hj' with e
              subst e
              rw [hel] at hg
              have hsz : j.stride = i.size := hstr.trans hst
              obtain ⟨new', h2, h3⟩ := H.get M hM1 ι W hR _ hx0
              obtain ⟨old', q1, q2, q3⟩ := K.get M hM2 ι W (by rw [H.heap]; exact hR) _ (.own g3)
              have hnl : new'.length = n * i.size := by rw [← h2.1, hb1]
              have hmul : (ln + n) * i.size = ln * i.size + n * i.size := Nat.add_mul _ _ _
              have hc' : (ln + n) * i.size ≤ c' * i.size := Nat.mul_le_mul_right _ hroom
              rw [hsz, hr] at g9
              have hput := run_put P j.g (ro + ln * i.size) elem fz new' 0 rc W hg hfz (by omega) (h2.ones hb2)
              generalize hrc : (rc.toList.take (ro + ln * i.size + 0) ++ new' ++ rc.toList.drop (ro + ln * i.size + 0 + new'.length)).toArray = rc' at hput
              rw [Nat.add_zero] at hrc
              have hsz' : rc'.size = rc.size := by
                rw [← hrc]
                simp
                omega
              have hat : ∀ x, rc'[x]? = if x < ro + ln * i.size then rc[x]? else if x < ro + ln * i.size + new'.length then new'[x - (ro + ln * i.size)]? else rc[x]? := fun x => by
                rw [← hrc]
                have hl1 : (rc.toList.take (ro + ln * i.size)).length = ro + ln * i.size := by simp; omega
                simp only [List.getElem?_toArray, List.append_assoc, List.getElem?_append, hl1]
                by_cases h1 : x < ro + ln * i.size
                · simp [h1]
                · by_cases h2 : x < ro + ln * i.size + new'.length
                  · rw [if_neg h1, if_pos (by omega), if_neg h1, if_pos h2]
                  · rw [if_neg h1, if_neg (by omega), if_neg h1, if_neg h2, List.getElem?_drop, show ro + ln * i.size + new'.length + (x - (ro + ln * i.size) - new'.length) = x by omega]
                    simp
              have hcl : (old ++ new).length = (ln + n) * i.size := by rw [List.length_append, hol, hb1, hmul]
              have hmoved := Post.moved hR hMb hpb' g3 hMn hfr (old ++ new) ro i.size rc rc' fz (by rw [hel]; exact hg) hsz' (by rw [hcl]; omega) (fun x u hu => by
                rw [hat]
                rw [List.getElem?_append, hol] at hu
                by_cases hx1 : x < ln * i.size
                · rw [if_pos hx1] at hu
                  rw [if_pos (by omega)]
                  obtain ⟨v, hv1, hv2⟩ := q2.at hu
                  have hcellx := q3 x v hv1
                  have hln : 0 < ln := by
                    rcases Nat.eq_zero_or_pos ln with h | h
                    · subst h; simp at hx1
                    · exact h
                  rw [← g8 (by omega), add_none] at hcellx
                  refine ⟨v, ?_, hv2⟩
                  simpa [World.cell?, hg] using hcellx
                · rw [if_neg hx1] at hu
                  obtain ⟨v, hv1, hv2⟩ := h2.at hu
                  have hlt := (List.getElem?_eq_some_iff.1 hv1).1
                  rw [if_neg (by omega), if_pos (by omega)]
                  exact ⟨v, by rw [← hv1]; congr 1; omega, hv2⟩)
              refine Does.value (runOf ρ W _ _ (run_append_in (ty := o.type) h0 h1 hu0 hu1 hxd hi g2 (hlen ι _ hx0 W) hroom h3 (by simp only; rw [add_none]; exact hput))) ⟨upd ι s3.next (some ⟨j.g, ro, (old ++ new).length, rc.size, i.size⟩), ?_, ?_⟩
              rotate_left
              · rw [hfin, ← hel, ← hn3]
                exact hmoved
              · refine VR.slc (i := ⟨j.g, ro, (old ++ new).length, rc.size, i.size⟩) (upd_same _ _ _) (Nat.le_refl _) hroom (fun hlt => ?_) ?_ (fun _ => rfl) ?_
                · simp only [hcl] at hlt; omega
                · simp only [hcl]; omega
                · simp only; omega
            · obtain ⟨old', q2, q3⟩ := read M hM2 ι ρ W.drew hR.drew hs0
              have hkill := Post.kill hR b s3.next s3.next
              obtain ⟨W', ι', c'', k1, k2, k3⟩ := fresh M ι ρ W (upd (hv s.heap) b none) s3.next old old' _ c' hkill.rh hfr hx0 g2 (by omega) q2 hol q3 (H.get M hM1 ι W.drew hR.drew _ hx0)
              refine Does.value k1 ⟨ι', k2, ?_⟩
              rw [hfin, ← hn3]
              exact hkill.trans k3 (Nat.le_refl _) (Nat.le_succ _)
        · have hk : ¬ off + cap * i.size = pb.cells.length := fun h => by rw [len_eq, h] at hk; simp at hk
          rw [catK_eq]
          refine made_ok <| Ans.yes ⟨H.pl.trans (K.pl.trans (PL.made s2 _ _ _)), fun M hM ι ρ W hR hρ hF => ?_⟩
          obtain ⟨hs0, hx0⟩ := ops ι ρ hρ
          rw [hs] at hs0
          have hM2 : MaskIn s2 M := hM.back (PL.made s2 _ _ _)
          have hM1 : MaskIn s1 M := hM2.back K.pl
          have hMb := hMs M hM2
          have hfr : ι s2.next = none := hF s2.next (by rw [hsn]; exact Nat.le_refl _) (by simp [PS.with])
          have hfin : ∀ (c : List Value) e st, hv (s2.with c e st).heap = upd (hv s.heap) s2.next (some ⟨c, e, st⟩) := fun c e st => by
            show hv (putH s2.next _ s2.heap) = _
            rw [hv_put, hsh]
          rcases hs0.of_slc with ⟨h4, h5⟩ | ⟨b', off', j, ro, c', heq, g2, g3, g4, g5, g6, g7, g8, g9⟩
          · cases h4
          · injection heq with e1 e2 e3
            subst e1
            subst e2
            have hol := holdlen M hM2 ι W hR j g3
            obtain ⟨j', rc, fz, hj', hg, hfz, hB, hp, hr, hstr, hfit, hcell⟩ := hR.blk b pb hMb hpb'
            rw [g3] at hj'
            injection hj' with e
            subst e
            have hsz : j.stride = i.size := hstr.trans hst
            rw [hsz, hp] at g6 g7
            have := g6 (by omega)
            subst this
            obtain ⟨old', q2, q3⟩ := read M hM2 ι ρ W.drew hR.drew hs0
            obtain ⟨W', ι', c'', k1, k2, k3⟩ := fresh M ι ρ W (hv s.heap) s2.next old old' _ c' hR hfr hx0 g2 (by omega) q2 hol q3 (H.get M hM1 ι W.drew hR.drew _ hx0)
            refine Does.value k1 ⟨ι', k2, ?_⟩
            rw [hfin, ← hsn]
            exact k3

theorem append_ok {γ : Type} {no : γ} {k : Value → PS → γ} {c : Call} (ho : o.op = .call c) (hc : c.callee = .builtin .append) : Ans no k (Ok P W0 o fr s) (pAppend no P E c.argTypes c.args.toList fr s k) := by
  unfold pAppend
  cases h0 : c.argTypes[0]? with
  | none => exact .not
  | some t0 =>
  cases h1 : c.argTypes[1]? with
  | none => exact .not
  | some t1 =>
  cases hx : c.args.toList with
  | nil => exact .not
  | cons s0 l =>
  cases l with
  | nil => exact .not
  | cons x0 l =>
  cases l with
  | cons _ _ => exact .not
  | nil =>
  simp only []
  cases hu0 : P.underlying t0 with
  | none => exact .not
  | some d =>
  cases hu1 : P.underlying t1 with
  | none => cases d <;> exact .not
  | some xd =>
  cases d with
  | slice elem =>
    simp only []
    cases hi : P.info? elem with
    | none => exact .not
    | some i =>
      simp only []
      cases hz : i.zero with
      | none => exact .not
      | some z =>
        simp only []
        cases hzs : Nat.beq z.cells.size i.size with
        | false => exact .not
        | true =>
          simp only [cond_true]
          have hzs := Nat.eq_of_beq_eq_true hzs
          have key : (∀ k, xd ≠ .int k) → Ans no k (Ok P W0 o fr s) (match vS (opd s0 fr) with
            | .sl base ln cap => match pLen (opd x0 fr) with
              | some n => pFirst no E s i.size n (opd x0 fr) fun new s => pGrow no E s elem i.size i.bytes base ln cap n new k
              | none => no
            | .no => no) := fun hxd => by
            split
            · rename_i base ln cap hs
              split
              · rename_i n hn
                exact first_ok (P := P) hE hn (Nat.le_refl _) fun l s1 H => grow_ok hE ho hc h0 h1 hx hu0 hu1 hxd hi hz hzs (vS_eq hs) hn H
              · exact .not
            · exact .not
          cases xd <;> first | exact .not | exact key (fun k h => by cases h)
  | _ => exact .not
end
end Go.Proofs.YtoimffkejoeadaaGreatDoor.Vm
