/- The machine of our own: what an operation answers, the real operation answers. Part 5: len, cap, append, copy. -/
import Derived.Test.YtoimffkejoeadaaGreatDoorVm8
namespace Go.Proofs.YtoimffkejoeadaaGreatDoor.Vm
open Go Go.RowKit
set_option linter.unusedVariables false
set_option linter.unusedSimpArgs false

section
variable {P : Program} {W0 : World} {E : Addr → Option Value} {o : Oper} {fr : Fr} {s : PS}

/-- A call of a builtin. -/
theorem run_builtin {c : Call} {b : Builtin} (ho : o.op = .call c) (hc : c.callee = .builtin b) (ρ : Operand → Value) (W : World) :
    ∃ cs, (execOp ρ o).run P W = (builtin b c.argTypes o.type cs (c.args.map ρ)).run P W := by
  simp only [execOp, ho, resolve, hc]
  exact ⟨_, rfl⟩
theorem args_eq {c : Call} {l : List Operand} (h : c.args.toList = l) (ρ : Operand → Value) : c.args.map ρ = ⟨l.map ρ⟩ := by
  apply Array.ext'
  simp [h]
theorem arg_mem {c : Call} (ho : o.op = .call c) {x : Operand} (h : x ∈ c.args.toList) : x ∈ o.op.operands := by
  simp only [ho, Op.operands, Call.operands]
  split <;> simp_all
theorem VR.slen {ι : Nat → Option Info} {a : Option Addr} {n c : Nat} {r : Value} (h : VR ι (.slice a n c) r) : ∃ a' c', r = .slice a' n c' := by
  cases a with
  | none => exact ⟨_, _, VR.atom_eq rfl h⟩
  | some a => rcases h.of_slc with ⟨_, h2⟩ | ⟨_, _, _, _, _, _, h2, _⟩ <;> exact ⟨_, _, h2⟩

theorem len_ok {γ : Type} {no : γ} {k : Value → PS → γ} {c : Call} {x : Operand} {e : TypeId} (ho : o.op = .call c) (hc : c.callee = .builtin .len) (ht : (c.argTypes[0]?).bind P.underlying = some (.slice e)) (hx : c.args.toList = [x]) :
    Ans no k (Ok P W0 o fr s) (match vS (opd x fr) with
        | .sl _ n _ => f0 (.int .i64 (.ofNat n)) fun v => k v s
        | .no => no) := by
  split
  · rename_i a n cp hs
    rw [f0_eq]
    have hs := vS_eq hs
    refine Ans.yes (Ok.still fun ι ρ hρ => ⟨_, .atom rfl, fun W => ?_⟩)
    have hxr := hρ x (arg_mem ho (by simp [hx]))
    rw [hs] at hxr
    obtain ⟨a', c', hr⟩ := hxr.slen
    obtain ⟨t, ht1, ht2⟩ := Option.bind_eq_some_iff.1 ht
    obtain ⟨cs, e⟩ := run_builtin ho hc ρ W
    rw [e, args_eq hx]
    simp [builtin, Builtin.len_, ht1, run_underlying ht2, hr, goInt]
  · exact .not
theorem cap_ok {γ : Type} {no : γ} {k : Value → PS → γ} {c : Call} {x : Operand} {e : TypeId} (ho : o.op = .call c) (hc : c.callee = .builtin .cap) (ht : (c.argTypes[0]?).bind P.underlying = some (.slice e)) (hx : c.args.toList = [x]) :
    Ans no k (Ok P W0 o fr s) (match vS (opd x fr) with
        | .sl none _ n => k (.int .i64 n) s
        | _ => no) := by
  split
  · rename_i n cp hs
    have hs := vS_eq hs
    refine Ans.yes (Ok.still fun ι ρ hρ => ⟨_, .atom rfl, fun W => ?_⟩)
    have hxr := hρ x (arg_mem ho (by simp [hx]))
    rw [hs] at hxr
    have hr := VR.atom_eq rfl hxr
    obtain ⟨t, ht1, ht2⟩ := Option.bind_eq_some_iff.1 ht
    obtain ⟨cs, e⟩ := run_builtin ho hc ρ W
    rw [e, args_eq hx]
    simp [builtin, Builtin.cap_, ht1, run_underlying ht2, hr, goInt]
  · exact .not

/-! ### What is appended or copied -/
theorem cells_nil (size n : Nat) (h : n * size = 0) (v : Value) (hv : (∃ a l c, v = .slice a l c)) (W : World) : (Builtin.firstCells size n v).run P W = .ok #[] W := by
  obtain ⟨a, l, c, rfl⟩ := hv
  cases a with
  | none => simp [Builtin.firstCells]
  | some a => simp [Builtin.firstCells, h, loadCells, loadCellsFrom]

theorem first_zero {size : Nat} {v : Value} {l : List Value} {W : World} (h : (Builtin.firstCells size 0 v).run P W = .ok ⟨l⟩ W) : l = [] := by
  unfold Builtin.firstCells at h
  split at h
  · rw [Nat.zero_mul] at h
    change Result.ok #[] W = _ at h
    injection h with h
    exact (congrArg Array.toList h).symm
  · change Result.ok #[] W = _ at h
    injection h with h
    exact (congrArg Array.toList h).symm
  · injection h with h
    have := congrArg Array.toList h
    simp at this
    exact this
  · cases h

structure FirstAt (P : Program) (W0 : World) (s : PS) (size n : Nat) (v : Value) (l : List Value) (s1 : PS) : Prop where
  pl : PL s s1
  heap : s1.heap = s.heap
  next : s1.next = s.next
  get : ∀ M, MaskIn s1 M → ∀ ι W, RH W0 ι M (hv s.heap) W → ∀ r, VR ι v r → ∃ l', LR ι l l' ∧ (Builtin.firstCells size n r).run P W = .ok ⟨l'⟩ W

theorem first_own {a : Addr} {size n len c : Nat} {l : List Value} {s1 : PS} (H : ReadAt P W0 s a (n * size) l s1) (hn : n ≤ len) : FirstAt P W0 s size n (.slice (some a) len c) l s1 := by
  refine ⟨H.pl, H.heap, H.next, fun M hM ι W hR r hr => ?_⟩
  have key : ∀ a' c', AR ι a a' → ∃ l', LR ι l l' ∧ (Builtin.firstCells size n (.slice (some a') len c')).run P W = .ok ⟨l'⟩ W := fun a' c' har => by
    obtain ⟨l', h1, h2, h3⟩ := H.get M hM ι W hR a' har
    exact ⟨l', h2, by have := run_loadCells_list (P := P) W a' l' h3; rw [h1] at this; simpa [Builtin.firstCells] using this⟩
  rcases hr.of_slc with ⟨h1, h2⟩ | ⟨b, off, j, ro, c', rfl, h2, h3, h4, h5, h6, h7, h8, h9⟩
  · obtain ⟨b, off, sp⟩ := a
    cases h1
    rw [h2]
    exact key _ _ .ext
  · rw [h2]
    rcases Nat.eq_zero_or_pos c with hc | hc
    · have hn0 : n = 0 := by omega
      subst hn0
      obtain ⟨l', h1', h2', h3'⟩ := H.get M hM ι W hR _ (.own h3)
      have : l' = [] := List.eq_nil_of_length_eq_zero (by simpa using h1')
      subst this
      exact ⟨[], h2', cells_nil _ _ (by simp) _ ⟨_, _, _, rfl⟩ W⟩
    · have := h8 hc
      subst this
      exact key _ _ (.own h3)

variable (hE : ∀ a v, E a = some v → W0.cell? a = some v ∧ atom v = true)
include hE
theorem first_ok {γ : Type} {no : γ} {k : Value → PS → γ} {R : Value → PS → Prop} {size n len : Nat} {v : Value} {f : List Value → PS → γ} (hv : pLen v = some len) (hn : n ≤ len)
    (h : ∀ l s1, FirstAt P W0 s size n v l s1 → Ans no k R (f l s1)) : Ans no k R (pFirst no E s size n v f) := by
  unfold pFirst
  split
  · rename_i a l c
    simp only [pLen] at hv
    injection hv with hv
    subst hv
    exact cells_ok (P := P) hE fun l s1 H => h l s1 (first_own H hn)
  · rename_i l c
    refine h [] s ⟨PL.refl s, rfl, rfl, fun M hM ι W hR r hr => ⟨[], .nil, ?_⟩⟩
    rw [VR.atom_eq rfl hr]
    simp [Builtin.firstCells]
  · rename_i b
    rw [fL_eq]
    refine h _ s ⟨PL.refl s, rfl, rfl, fun M hM ι W hR r hr => ⟨_, .of_atoms fun u hu => ?_, ?_⟩⟩
    · simp only [Array.toList_map, List.mem_map] at hu
      obtain ⟨x, _, rfl⟩ := hu
      rfl
    · rw [VR.atom_eq rfl hr]
      rfl
  · exact .not

theorem copy_ok {γ : Type} {no : γ} {k : Value → PS → γ} {c : Call} (ho : o.op = .call c) (hc : c.callee = .builtin .copy) : Ans no k (Ok P W0 o fr s) (pCopy no P E c.argTypes c.args.toList fr s k) := by
  unfold pCopy
  cases ht : c.argTypes[0]? with
  | none => exact .not
  | some dt =>
  cases hx : c.args.toList with
  | nil => exact .not
  | cons d0 l =>
  cases l with
  | nil => exact .not
  | cons x0 l =>
  cases l with
  | cons _ _ => exact .not
  | nil =>
    simp only []
    cases hu : P.underlying dt with
    | none => exact .not
    | some d =>
      cases d with
      | slice elem =>
        cases hi : P.info? elem with
        | none => simp only [hi]; exact .not
        | some i =>
          simp only [hi]
          split
          · rename_i base dlen dcap hs
            have hs := vS_eq hs
            split
            · rename_i n0 hn0
              rw [fN_eq]
              refine first_ok (P := P) hE hn0 (Nat.min_le_left _ _) fun l s1 H => ?_
              have ops : ∀ (ι : Nat → Option Info) (ρ : Operand → Value), (∀ y ∈ o.op.operands, VR ι (opd y fr) (ρ y)) → VR ι (opd d0 fr) (ρ d0) ∧ VR ι (opd x0 fr) (ρ x0) :=
                fun ι ρ hρ => ⟨hρ _ (arg_mem ho (by simp [hx])), hρ _ (arg_mem ho (by simp [hx]))⟩
              have hlen : ∀ (ι : Nat → Option Info) r, VR ι (opd x0 fr) r → ∀ W, (Builtin.lenOf r).run P W = .ok n0 W := fun ι r hr W => by
                generalize opd x0 fr = v at hr hn0
                unfold pLen at hn0
                split at hn0
                · injection hn0 with hn0; subst hn0
                  obtain ⟨a', c', rfl⟩ := hr.slen
                  rfl
                · injection hn0 with hn0; subst hn0
                  rw [VR.atom_eq rfl hr]
                  rfl
                · cases hn0
              have run : ∀ (ρ : Operand → Value) (W W' : World) (b : Option Addr) (cp : Nat) (l' : List Value), ρ d0 = .slice b dlen cp → (Builtin.lenOf (ρ x0)).run P W = .ok n0 W →
                  (Builtin.firstCells i.size (Nat.min n0 dlen) (ρ x0)).run P W = .ok ⟨l'⟩ W → (match b with | some a => (storeCells a l').run P W | none => .ok () W) = .ok () W' →
                  (execOp ρ o).run P W = .ok (.value (.int .i64 (Nat.min n0 dlen : Nat))) W' := by
                intro ρ W W' b cp l' h1 h2 h3 h4
                obtain ⟨cs, e⟩ := run_builtin ho hc ρ W
                rw [e, args_eq hx]
                refine run_v ?_
                simp only [Builtin.copy_]
                cases b with
                | none => simp at h4; subst h4; simp [ht, run_underlying hu, h1, h2, sizeOf, typeInfo, hi, h3, goInt]
                | some a => simp at h4; simp [ht, run_underlying hu, h1, h2, sizeOf, typeInfo, hi, h3, h4, goInt]
              cases base with
              | none =>
                refine Ans.yes ⟨H.pl, fun M hM ι ρ W hR hρ hF => ?_⟩
                obtain ⟨hd, hx0⟩ := ops ι ρ hρ
                rw [hs] at hd
                obtain ⟨l', h1, h2⟩ := H.get M hM ι W hR _ hx0
                refine Does.value (W' := W) (run ρ W W none dcap l' (VR.atom_eq rfl hd) (hlen ι _ hx0 W) h2 rfl) ⟨ι, .atom rfl, ?_⟩
                rw [H.heap]; exact Post.refl hR _ _
              | some a =>
                refine put_ok (P := P) (W0 := W0) fun s2 K => Ans.yes ⟨H.pl.trans K.pl, fun M hM ι ρ W hR hρ hF => ?_⟩
                obtain ⟨hd, hx0⟩ := ops ι ρ hρ
                rw [hs] at hd
                have hM1 : MaskIn s1 M := hM.back K.pl
                obtain ⟨l', h1, h2⟩ := H.get M hM1 ι W hR _ hx0
                have hR1 : RH W0 ι M (hv s1.heap) W := by rw [H.heap]; exact hR
                have fin : ∀ a' cp, AR ι a a' → ρ d0 = .slice (some a') dlen cp → Does P W (execOp ρ o) (Good W0 M ι s W (.int .i64 (Nat.min n0 dlen : Nat)) s2) := fun a' cp har hr => by
                  obtain ⟨W', h3, h4⟩ := K.put M hM ι W hR1 a' har l' h1
                  rw [H.heap, H.next] at h4
                  exact Does.value (run ρ W W' (some a') cp l' hr (hlen ι _ hx0 W) h2 h3) ⟨ι, .atom rfl, h4⟩
                rcases hd.of_slc with ⟨h3, h4⟩ | ⟨b, off, j, ro, c', rfl, g2, g3, g4, g5, g6, g7, g8, g9⟩
                · obtain ⟨b, off, sp⟩ := a
                  cases h3
                  exact fin _ _ .ext h4
                · rcases Nat.eq_zero_or_pos dcap with hz | hz
                  · have hd0 : dlen = 0 := by omega
                    subst hd0
                    have h2' := h2
                    rw [show Nat.min n0 0 = 0 from Nat.min_zero _] at h2'
                    have hl' : l' = [] := first_zero h2'
                    subst hl'
                    obtain ⟨W', h3, h4⟩ := K.put M hM ι W hR1 _ (.own g3) [] h1
                    change Result.ok () W = _ at h3
                    injection h3 with _ h3
                    subst h3
                    rw [H.heap, H.next] at h4
                    exact Does.value (run ρ W W (some ⟨j.g, ro, none⟩) c' [] g2 (hlen ι _ hx0 W) h2 rfl) ⟨ι, .atom rfl, h4⟩
                  · have := g8 hz
                    subst this
                    exact fin _ _ (.own g3) g2
            · exact .not
          · exact .not
      | _ => exact .not
end
end Go.Proofs.YtoimffkejoeadaaGreatDoor.Vm
