/- The machine of our own: what an operation answers, the real operation answers. Part 2: writing, making, parts. -/
import Derived.Test.YtoimffkejoeadaaGreatDoorVm5
import Derived.Laws.MakeOwn
namespace Go.Proofs.YtoimffkejoeadaaGreatDoor.Vm
open Go Go.RowKit
set_option linter.unusedVariables false
set_option linter.unusedSimpArgs false

section
variable {P : Program} {W0 : World} {E : Addr → Option Value} {o : Oper} {fr : Fr} {s : PS}

/-! ### Writing -/
theorem VR.undef {ι : Nat → Option Info} : VR ι undef undef := .tuple (l := []) (l' := []) rfl fun i u v h => by simp at h
structure PutAt (P : Program) (W0 : World) (s : PS) (a : Addr) (c : List Value) (s1 : PS) : Prop where
  pl : PL s s1
  next : s1.next = s.next
  put : ∀ M, MaskIn s1 M → ∀ ι W, RH W0 ι M (hv s.heap) W → ∀ a', AR ι a a' → ∀ c', LR ι c c' →
    ∃ W', (storeCells a' c').run P W = .ok () W' ∧ Post W0 M ι (hv s.heap) W s.next ι (hv s1.heap) W' s1.next

theorem LR.ones {ι : Nat → Option Info} {c c' : List Value} (h : LR ι c c') (ho : ∀ v ∈ c, one v = true) : ∀ v ∈ c', v.oneCell' = true := fun v hv => by
  obtain ⟨j, hj⟩ := List.mem_iff_getElem?.1 hv
  have hlt : j < c.length := by rw [h.1]; exact (List.getElem?_eq_some_iff.1 hj).1
  have hu := List.getElem?_eq_getElem hlt
  rw [one_oneCell, (h.2 j _ v hu hj).one]
  exact ho _ (List.getElem_mem hlt)
theorem blt_lt {a b : Nat} (h : Nat.blt a b = true) : a < b := by
  have := Nat.le_of_ble_eq_true h
  omega
theorem blt_ge {a b : Nat} (h : Nat.blt a b = false) : ¬ a < b := fun hl => by
  have : Nat.ble (a + 1) b = true := Nat.ble_eq_true_of_le hl
  rw [show Nat.blt a b = Nat.ble (a + 1) b from rfl, this] at h
  cases h

theorem put_ok {γ : Type} {no : γ} {k : Value → PS → γ} {R : Value → PS → Prop} {a : Addr} {c : List Value} {f : PS → γ} (h : ∀ s1, PutAt P W0 s a c s1 → Ans no k R (f s1)) :
    Ans no k R (pPut no s a c f) := by
  obtain ⟨b, o, sp⟩ := a
  cases sp with
  | none => exact .not
  | some sp =>
    refine Ans.opt fun pb hpb => Ans.cond' fun ho => Ans.opt fun l hl => ?_
    rw [write_eq]
    have ho := (ones_eq c).1 ho
    refine h _ ⟨PL.write s b _, rfl, fun M hM ι W hR a' ha c' hc => ?_⟩
    cases ha with
    | own hi =>
      rename_i i
      have hMb : M b := hM b (.inr ((inM_lor _ _ b).2 (.inr (inM_bit b))))
      obtain ⟨W', h1, h2⟩ := Post.put (P := P) hR hMb (pb := pb) (by simp [hv, hpb]) hi hl hc (hc.ones ho) s.next s.next 0 (i.sh + o) rfl
      refine ⟨W', h1, ?_⟩
      rw [hv_put]
      exact h2

theorem opStore_ok {γ : Type} {no : γ} {k : Value → PS → γ} {t : TypeId} {a x : Operand} (ho : o.op = .store t a x) : Ans no k (Ok P W0 o fr s) (pStore no P t a x fr s k) := by
  unfold pStore
  cases hi : P.info? t with
  | none => exact .not
  | some i =>
    refine Ans.opt fun p hp => Ans.cond' fun hn => put_ok (P := P) (W0 := W0) fun s1 H => Ans.yes ⟨H.pl, fun M hM ι ρ W hR hρ hF => ?_⟩
    have hp := vP_eq hp
    have ha := hρ a (by simp [ho, Op.operands])
    have hx := (hρ x (by simp [ho, Op.operands])).cells
    rw [hp] at ha
    obtain ⟨a', ha', har⟩ := VR.of_ptr ha
    have hn := Nat.eq_of_beq_eq_true hn
    rw [len_eq] at hn
    obtain ⟨W', h1, h2⟩ := H.put M hM ι W hR a' har _ hx
    refine Does.skip (W' := W') ?_ ⟨ι, .undef, h2⟩
    have hsz : (ρ x).cells.size = i.size := by rw [← Array.length_toList, ← hx.1, hn]
    simp only [execOp, ho]
    exact run_u (by simp [Instr.storeAt, ha', Instr.sureAddr, storeVar, sizeOf, typeInfo, hi, hsz, h1])

/-! ### Making -/
theorem made_ok {γ : Type} {no : γ} {k : Value → PS → γ} {R : Value → PS → Prop} {c : List Value} {e st : Nat} {f : PS → γ} (h : Ans no k R (f (s.with c e st))) : Ans no k R (s.new c e st f) := by
  rw [new_eq]; exact h
theorem Post.with {M : Nat → Prop} {ι : Nat → Option Info} {W : World} (hR : RH W0 ι M (hv s.heap) W) (cells : List Value) (rc : Array Value) (e st : Nat) (hF : Fresh ι s.next (s.with cells e st).next)
    (hsz : cells.length ≤ rc.size) (hrel : ∀ (j : Nat) (u : Value), cells[j]? = some u → ∃ v, rc[j]? = some v ∧ VR ι u v) :
    Post W0 M ι (hv s.heap) W s.next (upd ι s.next (some ⟨W.heap.size, 0, cells.length, rc.size, st⟩)) (hv (s.with cells e st).heap) (W.alloc (.cells rc e)) (s.with cells e st).next := by
  have := Post.made hR (hF s.next (Nat.le_refl _) (by simp [PS.with])) cells rc e st hsz hrel
  show Post W0 M ι (hv s.heap) W s.next _ (hv (putH s.next _ s.heap)) _ _
  rw [hv_put]
  exact this
theorem LR.at' {ι : Nat → Option Info} {l : List Value} {rc : Array Value} (h : LR ι l rc.toList) (j : Nat) (u : Value) (hu : l[j]? = some u) : ∃ v, rc[j]? = some v ∧ VR ι u v := by
  obtain ⟨v, hv, hr⟩ := h.at hu
  exact ⟨v, by simpa using hv, hr⟩

theorem zeroCells_eq {t : TypeId} {z : List Value} (h : zeroCells? P t = some z) : ∃ i v, P.info? t = some i ∧ i.zero = some v ∧ z = v.cells.toList ∧ ∀ u ∈ z, atom u = true := by
  unfold zeroCells? at h
  cases hi : P.info? t with
  | none => simp [hi] at h
  | some i =>
    cases hz : i.zero with
    | none => simp [hi, hz] at h
    | some v =>
      cases ha : atoms v.cells.toList with
      | false => simp [hi, hz, ha] at h
      | true =>
        simp [hi, hz, ha] at h
        subst h
        exact ⟨i, v, rfl, hz, rfl, (atoms_eq _).1 ha⟩

theorem opAlloc_ok {γ : Type} {no : γ} {k : Value → PS → γ} {t : TypeId} {z : List Value} {st : Nat} (ho : o.op = .alloc t) (hz : zeroCells? P t = some z) :
    Ans no k (Ok P W0 o fr s) (s.new z t st fun t => k (.pointer (some (here s.next 0))) t) := by
  refine made_ok <| Ans.yes ⟨PL.made s _ _ _, fun M hM ι ρ W hR hρ hF => ?_⟩
  obtain ⟨i, v, hi, hv, rfl, hat⟩ := zeroCells_eq hz
  have hp := Post.with hR _ v.cells t st hF (by simp) (LR.at' (LR.of_atoms hat))
  refine Does.value (r := .pointer (some ⟨W.heap.size, 0, none⟩)) (W' := W.alloc (.cells v.cells t)) ?_ ⟨_, ?_, hp⟩
  · simp only [execOp, ho]
    exact run_v (by simp [Instr.alloc, zeroValue, typeInfo, hi, hv, newVar, newRow])
  · exact VR.ptr (o := 0) (upd_same _ _ _)

theorem opBox_ok {γ : Type} {no : γ} {k : Value → PS → γ} {t : TypeId} {x : Operand} {st : Nat} (ho : o.op = .box t x) :
    Ans no k (Ok P W0 o fr s) (s.new (opd x fr).cells.toList t st fun t => k (.pointer (some (here s.next 0))) t) := by
  refine made_ok <| Ans.yes ⟨PL.made s _ _ _, fun M hM ι ρ W hR hρ hF => ?_⟩
  have hx := (hρ x (by simp [ho, Op.operands])).cells
  have hp := Post.with hR _ (ρ x).cells t st hF (by rw [hx.1]; simp) (LR.at' hx)
  refine Does.value (r := .pointer (some ⟨W.heap.size, 0, none⟩)) (W' := W.alloc (.cells (ρ x).cells t)) ?_ ⟨_, ?_, hp⟩
  · simp only [execOp, ho]
    exact run_v (by simp [Instr.box, newVar, newRow])
  · exact VR.ptr (o := 0) (upd_same _ _ _)

theorem rowOf_eq (z : Array Value) (n : Nat) : rowOf z n = (madeCells z n).toList := rfl
theorem rowOf_atoms {z : Array Value} (h : ∀ u ∈ z.toList, atom u = true) (n : Nat) : ∀ u ∈ rowOf z n, atom u = true := fun u hu => by
  simp only [rowOf, Array.toList_map, Array.toList_range, List.mem_map, List.mem_range] at hu
  obtain ⟨j, hj, rfl⟩ := hu
  by_cases hlt : j % z.size < z.size
  · rw [getElem!_pos z (j % z.size) hlt]
    exact h _ (by simp)
  · rw [getElem!_neg z (j % z.size) hlt]
    rfl

theorem slc_new {ι : Nat → Option Info} {b n g m st : Nat} {sz rz : Nat} (hn : n ≤ m) (hm : m * st ≤ sz) (hrz : m * st ≤ rz) :
    VR (upd ι b (some ⟨g, 0, sz, rz, st⟩)) (.slice (some (here b 0)) n m) (.slice (some ⟨g, 0, none⟩) n m) :=
  VR.slc (upd_same _ _ _) hn (Nat.le_refl _) (fun _ => rfl) (by simpa using hm) (fun _ => rfl) (by simpa using hrz)

theorem opMake_ok {γ : Type} {no : γ} {k : Value → PS → γ} {t : TypeId} {l c : Operand} (ho : o.op = .makeSlice t l c) : Ans no k (Ok P W0 o fr s) (pMake no P t l c fr s k) := by
  unfold pMake
  cases hu : P.underlying t with
  | none => exact .not
  | some d =>
    cases d with
    | slice e =>
      cases hi : P.info? e with
      | none => simp only [hi]; exact .not
      | some i =>
        cases hz : zeroCells? P e with
        | none => simp only [hi, hz]; exact .not
        | some z =>
          simp only [hi, hz]
          cases h0 : Nat.beq i.size 0 with
          | true => exact .not
          | false =>
            simp only [cond_false]
            refine Ans.onO fun n hn => Ans.onO fun m hm => Ans.cond' fun hb => ?_
            rw [fL_eq]
            refine made_ok <| Ans.yes ⟨PL.made s _ _ _, fun M hM ι ρ W hR hρ hF => ?_⟩
            simp only [Bool.and_eq_true] at hb
            obtain ⟨⟨hb1, hb2⟩, hb3⟩ := hb
            have hb1 := Nat.le_of_ble_eq_true hb1
            have hb2 := Nat.le_of_ble_eq_true hb2
            have hb3 := Nat.le_of_ble_eq_true hb3
            have hl := hρ l (by simp [ho, Op.operands]); rw [vN64_eq hn] at hl
            have hc := hρ c (by simp [ho, Op.operands]); rw [vN64_eq hm] at hc
            obtain ⟨i', v, hi', hv, rfl, hat⟩ := zeroCells_eq hz
            rw [hi] at hi'
            injection hi' with hi'
            subst hi'
            have hzz : (⟨v.cells.toList⟩ : Array Value) = v.cells := rfl
            have hrow := rowOf_eq v.cells (m * i.size)
            have hm' : (m : Int) ≤ 1000000000 := by omega
            have hb3' : (i.bytes : Int) * (m : Int) ≤ 281474976710656 := by
              have h : ((i.bytes * m : Nat) : Int) ≤ 281474976710656 := by omega
              rwa [Int.natCast_mul] at h
            have hr := run_make (P := P) W t e i v hu hi hv .i64 .i64 n m (by omega) (by omega) hb3' (by omega)
            simp only [Int.toNat_natCast] at hr
            have hsz : (rowOf v.cells (m * i.size)).length = m * i.size := by rw [hrow]; simp [madeCells]
            have hp := Post.with hR (rowOf v.cells (m * i.size)) (madeCells v.cells (m * i.size)) e i.size hF (by rw [hrow]; simp) (LR.at' (by rw [← hrow]; exact LR.of_atoms (rowOf_atoms hat _)))
            refine Does.value (r := .slice (some ⟨W.heap.size, 0, none⟩) n m) (W' := W.alloc (.cells (madeCells v.cells (m * i.size)) e)) ?_ ⟨_, ?_, hp⟩
            · simp only [execOp, ho, hl.int, hc.int]
              exact run_v hr
            · exact slc_new hb1 (by rw [hsz]; exact Nat.le_refl _) (by simp [madeCells])
    | _ => exact .not

/-! ### Parts -/
theorem calm_bind {α β : Type} {m : Sem α} {f : α → Sem β} {b : β} (h : calm P (m >>= f) = some b) : ∃ a, calm P m = some a ∧ calm P (f a) = some b := by
  change calm P (m.bind f) = some b at h
  induction m with
  | pure a => exact ⟨a, rfl, h⟩
  | program k ih => exact ih P h
  | mark m k ih => exact ih h
  | _ => simp [Sem.bind, calm] at h
theorem calm_bind_eq {α β : Type} {m : Sem α} {f : α → Sem β} {a : α} (h : calm P m = some a) : calm P (m >>= f) = calm P (f a) := by
  change calm P (m.bind f) = _
  induction m with
  | pure x => simp only [calm] at h; injection h with h; subst h; rfl
  | program k ih => exact ih P h
  | mark m k ih => exact ih h
  | _ => simp [calm] at h

theorem calm_underlying {t : TypeId} {d : TypeDesc} (h : calm P (underlying t) = some d) : P.underlying t = some d := by
  have := calm_run h default
  unfold underlying at h
  obtain ⟨p, h1, h2⟩ := calm_bind h
  simp [program, calm] at h1
  subst h1
  cases hu : P.underlying t with
  | none => simp [hu, stuck, calm] at h2
  | some d' =>
    rw [hu] at h2
    change some d' = some d at h2
    exact h2
theorem underlying_calm {t : TypeId} {d : TypeDesc} (h : P.underlying t = some d) : calm P (underlying t) = some d := by
  unfold underlying
  rw [calm_bind_eq (a := P) rfl]
  rw [h]; rfl

theorem LR.extract {ι : Nat → Option Info} {a b : Array Value} (h : LR ι a.toList b.toList) (x y : Nat) : LR ι (a.extract x y).toList (b.extract x y).toList := by
  rw [Array.toList_extract, Array.toList_extract, List.extract_eq_take_drop, List.extract_eq_take_drop]
  exact (h.drop _).take _

theorem part_rel {ι : Nat → Option Info} {t : TypeId} {cs cs' : Array Value} {off : Nat} {x : Value} (h : calm P (part t cs off) = some x) (hc : LR ι cs.toList cs'.toList) :
    ∃ x', VR ι x x' ∧ ∀ W, (part t cs' off).run P W = .ok x' W := by
  unfold part at h
  obtain ⟨b, h1, h2⟩ := calm_bind h
  cases b with
  | true =>
    obtain ⟨n, h3, h4⟩ := calm_bind h2
    change some _ = some x at h4
    injection h4 with h4
    subst h4
    have he := hc.extract off (off + n)
    refine ⟨.agg (cs'.extract off (off + n)), .agg he.1 he.2, fun W => ?_⟩
    simp [part, calm_run h1, calm_run h3]
  | false =>
    simp only [Bool.false_eq_true, if_false] at h2
    cases hv : cs[off]? with
    | none => simp [hv, stuck, calm] at h2
    | some v =>
      rw [hv] at h2
      change some _ = some x at h2
      injection h2 with h2
      subst h2
      obtain ⟨r, hr, hvr⟩ := hc.at (i := off) (u := v) (by simpa using hv)
      refine ⟨r, hvr, fun W => ?_⟩
      have hr' : cs'[off]? = some r := by simpa using hr
      simp [part, calm_run h1, hr']

/-- Parts to be put in, on both sides. -/
inductive PR (ι : Nat → Option Info) : List (Nat × Value) → List (Nat × Value) → Prop
  | nil : PR ι [] []
  | cons {i : Nat} {v r : Value} {l l' : List (Nat × Value)} (h : VR ι v r) (t : PR ι l l') : PR ι ((i, v) :: l) ((i, r) :: l')

theorem LR.set {ι : Nat → Option Info} {a b : Array Value} (h : LR ι a.toList b.toList) (j : Nat) {v r : Value} (hv : VR ι v r) : LR ι (a.setIfInBounds j v).toList (b.setIfInBounds j r).toList := by
  rw [Array.toList_setIfInBounds, Array.toList_setIfInBounds]
  refine ⟨by simp [h.1], fun i u w hu hw => ?_⟩
  rw [List.getElem?_set] at hu hw
  by_cases hj : j = i
  · subst hj
    rw [if_pos rfl] at hu hw
    split at hu
    · injection hu with hu
      split at hw
      · injection hw with hw; subst hu; subst hw; exact hv
      · cases hw
    · cases hu
  · rw [if_neg hj] at hu hw
    exact h.2 i u w hu hw

theorem foldl_rel {ι : Nat → Option Info} (off : Nat) : ∀ (c c' : List Value) (k : Nat) (a b : Array Value), LR ι c c' → LR ι a.toList b.toList →
    LR ι ((c.zipIdx k).foldl (fun cs (x : Value × Nat) => cs.setIfInBounds (off + x.2) x.1) a).toList ((c'.zipIdx k).foldl (fun cs (x : Value × Nat) => cs.setIfInBounds (off + x.2) x.1) b).toList
  | [], c', k, a, b, h, hab => by rw [h.inv_nil]; exact hab
  | v :: c, c', k, a, b, h, hab => by
    obtain ⟨r, m, rfl, hv, hm⟩ := h.inv_cons
    simp only [List.zipIdx_cons, List.foldl_cons]
    exact foldl_rel off c m (k + 1) _ _ hm (hab.set _ hv)

theorem fill_rel {ι : Nat → Option Info} (place : Nat → Option (Nat × Nat)) : ∀ (l l' : List (Nat × Value)) (a b r : Array Value), PR ι l l' → LR ι a.toList b.toList → Instr.fill place a l = some r →
    ∃ r', Instr.fill place b l' = some r' ∧ LR ι r.toList r'.toList
  | _, _, a, b, r, .nil, hab, h => by
    simp only [Instr.fill] at h ⊢
    injection h with h
    subst h
    exact ⟨b, rfl, hab⟩
  | _, _, a, b, r, .cons (i := i) (v := v) (r := w) hv ht, hab, h => by
    simp only [Instr.fill] at h ⊢
    cases hp : place i with
    | none => simp [hp] at h
    | some x =>
      obtain ⟨off, size⟩ := x
      simp only [hp] at h ⊢
      have hs : w.cells.size = v.cells.size := by have := hv.cells.1; simpa using this.symm
      have hs2 : b.size = a.size := by have := hab.1; simpa using this.symm
      rw [hs, hs2]
      split at h
      · cases h
      · rename_i hc
        rw [if_neg hc]
        refine fill_rel place _ _ _ _ r ht ?_ h
        have := foldl_rel off v.cells.toList w.cells.toList 0 a b hv.cells hab
        rw [← Array.foldl_toList, ← Array.foldl_toList, Array.toList_zipIdx, Array.toList_zipIdx]
        exact this

theorem PR.of {ι : Nat → Option Info} {ρ : Operand → Value} : ∀ (l : List (Nat × Operand)), (∀ x ∈ l, VR ι (opd x.2 fr) (ρ x.2)) → PR ι (l.map fun (i, x) => (i, opd x fr)) (l.map fun (i, x) => (i, ρ x))
  | [], _ => .nil
  | (i, x) :: l, h => .cons (h (i, x) (by simp)) (PR.of l fun y hy => h y (by simp [hy]))

theorem build_rel {ι : Nat → Option Info} {t : TypeId} {z : List Value} {x : Value} {ps ps' : Array (Nat × Value)} (hz : zeroCells? P t = some z) (hx : calm P (Instr.build t ps) = some x) (hpr : PR ι ps.toList ps'.toList) :
    ∃ r, VR ι x r ∧ ∀ W, (Instr.build t ps').run P W = .ok r W := by
  obtain ⟨i, v, hi, hv, rfl, hat⟩ := zeroCells_eq hz
  have hrel : LR ι v.cells.toList v.cells.toList := LR.of_atoms hat
  have hzero : ∀ W, (zeroValue t).run P W = .ok v W := fun W => by simp [zeroValue, typeInfo, hi, hv]
  unfold Instr.build at hx
  obtain ⟨z, hz1, hx⟩ := calm_bind hx
  have hzv : z = v := by
    have := calm_run hz1 default
    rw [hzero] at this
    injection this with this
    exact this.symm
  subst hzv
  obtain ⟨d, hd, hx⟩ := calm_bind hx
  have hu := calm_underlying hd
  cases d with
  | struct fields =>
    obtain ⟨places, hpl, hx⟩ := calm_bind hx
    cases hf : Instr.fill (places[·]?) z.cells ps.toList with
    | none => simp [hf, stuck, calm] at hx
    | some cells =>
      simp only [hf] at hx
      change some _ = some x at hx
      injection hx with hx
      subst hx
      obtain ⟨r', hr', hrr⟩ := fill_rel _ _ _ _ _ _ hpr hrel hf
      refine ⟨.agg r', .agg hrr.1 hrr.2, fun W => ?_⟩
      simp only [Instr.build, Sem.run_bind, hzero, Result.andThen_ok, run_underlying hu, calm_run hpl, hr']
      rfl
  | array n e =>
    obtain ⟨size, hsz, hx⟩ := calm_bind hx
    cases hf : Instr.fill (fun i => some (i * size, size)) z.cells ps.toList with
    | none => simp [hf, stuck, calm] at hx
    | some cells =>
      simp only [hf] at hx
      change some _ = some x at hx
      injection hx with hx
      subst hx
      obtain ⟨r', hr', hrr⟩ := fill_rel _ _ _ _ _ _ hpr hrel hf
      refine ⟨.agg r', .agg hrr.1 hrr.2, fun W => ?_⟩
      simp only [Instr.build, Sem.run_bind, hzero, Result.andThen_ok, run_underlying hu, calm_run hsz, hr']
      rfl
  | _ => simp [stuck, calm] at hx

theorem opBuild_ok {γ : Type} {no : γ} {k : Value → PS → γ} {t : TypeId} {parts : Array (Nat × Operand)} (ho : o.op = .build t parts) : Ans no k (Ok P W0 o fr s) (pBuild no P t parts fr s k) := by
  unfold pBuild
  cases hz : zeroCells? P t with
  | none => exact .not
  | some z =>
  simp only [hz]
  split
  · rename_i x hx
    rw [fV_eq]
    refine Ans.yes (Ok.still fun ι ρ hρ => ?_)
    have hpr : PR ι (parts.map fun (i, x) => (i, opd x fr)).toList (parts.map fun (i, x) => (i, ρ x)).toList := by
      rw [Array.toList_map, Array.toList_map]
      refine PR.of parts.toList fun y hy => hρ y.2 ?_
      simp only [ho, Op.operands, List.mem_toArray, List.mem_map]
      exact ⟨y, hy, rfl⟩
    obtain ⟨r, hr, hrun⟩ := build_rel hz hx hpr
    exact ⟨r, hr, fun W => by simp only [execOp, ho]; exact run_v (hrun W)⟩
  · exact .not

theorem fill_size (size : Nat) : ∀ (l : List (Nat × Value)) (a r : Array Value), Instr.fill (fun k => some (k * size, size)) a l = some r → r.size = a.size := by
  intro l
  induction l with
  | nil => intro a r h; simp only [Instr.fill] at h; injection h with h; rw [h]
  | cons x l ih =>
    intro a r h
    obtain ⟨k, w⟩ := x
    simp only [Instr.fill] at h
    split at h
    · cases h
    · rw [ih _ _ h]
      have : ∀ (l : List (Value × Nat)) (a : Array Value), (l.foldl (fun cs (x : Value × Nat) => cs.setIfInBounds (k * size + x.2) x.1) a).size = a.size := by
        intro l
        induction l with
        | nil => intro a; rfl
        | cons y l ih => intro a; simp only [List.foldl_cons]; rw [ih]; simp
      rw [← Array.foldl_toList]
      exact this _ _

theorem buildSlice_rel {ι : Nat → Option Info} {t e : TypeId} {n : Nat} {i : TypeInfo} {v : Value} {cells : Array Value} {ps ps' : Array (Nat × Value)} (hu : P.underlying t = some (.slice e)) (hi : P.info? e = some i) (hv : i.zero = some v)
    (hat : ∀ u ∈ v.cells.toList, atom u = true) (hb : n * i.size ≤ 16777216) (hf : Instr.fill (fun k => some (k * i.size, i.size)) (madeCells v.cells (n * i.size)) ps.toList = some cells) (hpr : PR ι ps.toList ps'.toList) :
    ∃ r', cells.size = n * i.size ∧ r'.size = n * i.size ∧ LR ι cells.toList r'.toList ∧ ∀ W, (Instr.buildSlice t n ps').run P W = .ok (.slice (some ⟨W.heap.size, 0, none⟩) n n) (W.alloc (.cells r' e)) := by
  have hrow : LR ι (madeCells v.cells (n * i.size)).toList (madeCells v.cells (n * i.size)).toList := by rw [← rowOf_eq]; exact LR.of_atoms (rowOf_atoms hat _)
  obtain ⟨r', hr', hrr⟩ := fill_rel _ _ _ _ _ _ hpr hrow hf
  have hsz1 : cells.size = n * i.size := by rw [fill_size _ _ _ _ hf]; simp [madeCells]
  have hsz2 : r'.size = n * i.size := by rw [← Array.length_toList, ← hrr.1, Array.length_toList, hsz1]
  refine ⟨r', hsz1, hsz2, hrr, fun W => ?_⟩
  have hcap : ¬ (16777216 < n * i.size) := by omega
  by_cases hn0 : n * i.size = 0
  · have hm : madeCells v.cells (n * i.size) = #[] := by simp [madeCells, hn0]
    rw [hm] at hr'
    simp [Instr.buildSlice, run_underlying hu, sizeOf, typeInfo, hi, hn0, Array.range_zero', hr', newRow]
  · have hm : Array.map (fun x => v.cells[x % v.cells.size]!) (Array.range (n * i.size)) = madeCells v.cells (n * i.size) := rfl
    simp [Instr.buildSlice, run_underlying hu, sizeOf, typeInfo, hi, hn0, hcap, zeroValue, hv, hm, hr', newRow]

theorem opBuildSlice_ok {γ : Type} {no : γ} {k : Value → PS → γ} {t : TypeId} {n : Nat} {parts : Array (Nat × Operand)} (ho : o.op = .buildSlice t n parts) : Ans no k (Ok P W0 o fr s) (pBuildSlice no P t n parts fr s k) := by
  unfold pBuildSlice
  cases hu : P.underlying t with
  | none => exact .not
  | some d =>
    cases d with
    | slice e =>
      cases hi : P.info? e with
      | none => simp only [hi]; exact .not
      | some i =>
        cases hz : zeroCells? P e with
        | none => simp only [hi, hz]; exact .not
        | some z =>
          simp only [hi, hz]
          cases h0 : (Nat.ble (n * i.size) 16777216 && !Nat.beq i.size 0) with
          | false => exact .not
          | true =>
            simp only [cond_true]
            split
            · rename_i cells hf
              rw [fL_eq]
              refine made_ok <| Ans.yes ⟨PL.made s _ _ _, fun M hM ι ρ W hR hρ hF => ?_⟩
              simp only [Bool.and_eq_true] at h0
              have hb := Nat.le_of_ble_eq_true h0.1
              obtain ⟨i', v, hi', hv, rfl, hat⟩ := zeroCells_eq hz
              rw [hi] at hi'
              injection hi' with hi'
              subst hi'
              have hpr : PR ι (parts.map fun (i, x) => (i, opd x fr)).toList (parts.map fun (i, x) => (i, ρ x)).toList := by
                rw [Array.toList_map, Array.toList_map]
                refine PR.of parts.toList fun y hy => hρ y.2 ?_
                simp only [ho, Op.operands, List.mem_toArray, List.mem_map]
                exact ⟨y, hy, rfl⟩
              obtain ⟨r', hsz1, hsz2, hrr, hrun⟩ := buildSlice_rel hu hi hv hat hb hf hpr
              have hp := Post.with hR cells.toList r' e i.size hF (by rw [Array.length_toList, hsz1, hsz2]; exact Nat.le_refl _) (LR.at' hrr)
              refine Does.value (r := .slice (some ⟨W.heap.size, 0, none⟩) n n) (W' := W.alloc (.cells r' e)) ?_ ⟨_, ?_, hp⟩
              · simp only [execOp, ho]
                exact run_v (hrun W)
              · exact slc_new (Nat.le_refl _) (by rw [Array.length_toList, hsz1]; exact Nat.le_refl _) (by rw [hsz2]; exact Nat.le_refl _)
            · exact .not
    | _ => exact .not
end
end Go.Proofs.YtoimffkejoeadaaGreatDoor.Vm
