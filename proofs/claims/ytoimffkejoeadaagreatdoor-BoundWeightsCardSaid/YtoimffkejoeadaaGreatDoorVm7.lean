/- The machine of our own: what an operation answers, the real operation answers. Part 3: addresses, parts, numbers. -/
import Derived.Test.YtoimffkejoeadaaGreatDoorVm6
namespace Go.Proofs.YtoimffkejoeadaaGreatDoor.Vm
open Go Go.RowKit
set_option linter.unusedVariables false
set_option linter.unusedSimpArgs false

section
variable {P : Program} {W0 : World} {E : Addr → Option Value} {o : Oper} {fr : Fr} {s : PS}

theorem fieldAddr_ok {γ : Type} {no : γ} {k : Value → PS → γ} {t : TypeId} {x : Operand} {f : Nat} (ho : o.op = .fieldAddr t x f) : Ans no k (Ok P W0 o fr s) (pFieldAddr no P t x f fr s k) := by
  unfold pFieldAddr
  cases hu : P.underlying t with
  | none => exact .not
  | some d =>
    cases d with
    | struct fs =>
      cases hf : fs[f]? with
      | none => simp only [hf]; exact .not
      | some fd =>
        cases hi : P.info? fd.type with
        | none => simp only [hf, hi]; exact .not
        | some i =>
          simp only [hf, hi]
          cases h0 : Nat.beq i.size 0 with
          | true => exact .not
          | false =>
            simp only [cond_false]
            refine Ans.opt fun a ha => ?_
            rw [fA_eq]
            have ha := vP_eq ha
            refine Ans.yes (Ok.still fun ι ρ hρ => ?_)
            have hx := hρ x (by simp [ho, Op.operands])
            rw [ha] at hx
            obtain ⟨a', ha', har⟩ := VR.of_ptr hx
            refine ⟨_, (har.padd fd.offset).ptr, fun W => ?_⟩
            have hne : i.size ≠ 0 := Nat.ne_of_beq_eq_false h0
            simp only [execOp, ho]
            exact run_v (by simp [Instr.fieldAt, run_underlying hu, hf, ha', Instr.sureAddr, fieldPlace, sizeOf, typeInfo, hi, hne])
    | _ => exact .not

theorem field_ok {γ : Type} {no : γ} {k : Value → PS → γ} {t : TypeId} {x : Operand} {f : Nat} (ho : o.op = .field t x f) : Ans no k (Ok P W0 o fr s) (pField no P t x f fr s k) := by
  unfold pField
  cases hu : P.underlying t with
  | none => exact .not
  | some d =>
    cases d with
    | struct fs =>
      cases hf : fs[f]? with
      | none => simp only [hf]; exact .not
      | some fd =>
        simp only [hf]
        refine Ans.onO fun cs hcs => Ans.onO fun v hv => ?_
        rw [fV_eq]
        have hcs := vG_eq hcs
        refine Ans.yes (Ok.still fun ι ρ hρ => ?_)
        have hx := hρ x (by simp [ho, Op.operands])
        have hc := hx.cells
        rw [hcs] at hx hc
        obtain ⟨l, hl⟩ : ∃ l, ρ x = .agg l := by
          generalize ρ x = y at hx
          cases hx with
          | atom h => simp [atom] at h
          | agg _ _ => exact ⟨_, rfl⟩
        rw [hl] at hc
        have hc : LR ι cs.toList l.toList := hc
        obtain ⟨r, hr, hrun⟩ := part_rel hv hc
        refine ⟨r, hr, fun W => ?_⟩
        simp only [execOp, ho]
        exact run_v (by simp [Instr.field, run_underlying hu, hf, hl, asAgg, hrun])
    | _ => exact .not

theorem VR.of_slc {ι : Nat → Option Info} {a : Addr} {n c : Nat} {r : Value} (h : VR ι (.slice (some a) n c) r) :
    (a.spot = none ∧ r = .slice (some a) n c) ∨ ∃ b o i ro c', a = here b o ∧ r = .slice (some ⟨i.g, ro, none⟩) n c' ∧ ι b = some i ∧ n ≤ c ∧ c ≤ c' ∧ (o + c * i.stride < i.psz → c' = c) ∧ o + c * i.stride ≤ i.psz ∧
      (0 < c → ro = i.sh + o) ∧ ro + c' * i.stride ≤ i.rsz := by
  cases h with
  | atom h =>
    left
    refine ⟨?_, rfl⟩
    obtain ⟨b, o, s⟩ := a
    cases s with
    | none => rfl
    | some n => simp [Vm.atom] at h
  | slc h hn hc he ho hp hr => exact .inr ⟨_, _, _, _, _, rfl, rfl, h, hn, hc, he, ho, hp, hr⟩

theorem indexAddr_ok {γ : Type} {no : γ} {k : Value → PS → γ} {t : TypeId} {x ix : Operand} (ho : o.op = .indexAddr t x ix) : Ans no k (Ok P W0 o fr s) (pIndexAddr no P t x ix fr s k) := by
  unfold pIndexAddr
  cases hu : P.underlying t with
  | none => exact .not
  | some d =>
    cases d with
    | slice e =>
      cases hi : P.info? e with
      | none => simp only [hi]; exact .not
      | some i =>
        simp only [hi]
        refine Ans.opt fun n hn => ?_
        split
        · rename_i a len cap hs
          refine Ans.cond' fun hb => ?_
          rw [fA_eq]
          have hs := vS_eq hs
          obtain ⟨kd, hn⟩ := vN_eq hn
          have hb := blt_lt hb
          refine Ans.yes (Ok.still fun ι ρ hρ => ?_)
          have hx := hρ x (by simp [ho, Op.operands])
          have hix := hρ ix (by simp [ho, Op.operands])
          rw [hs] at hx
          rw [hn] at hix
          have hix := hix.int
          have hlt : (n : Int) < (len : Int) := by omega
          have key : ∀ a' c', AR ι a a' → ρ x = .slice (some a') len c' → ∃ r, VR ι (.pointer (some (padd a (n * i.size)))) r ∧ ∀ W, (execOp ρ o).run P W = .ok (.value r) W := fun a' c' har hr => by
            refine ⟨_, (har.padd _).ptr, fun W => ?_⟩
            simp only [execOp, ho]
            exact run_v (by simp [Instr.indexAt, run_underlying hu, hix, asIntOf, hr, hlt, hb, sizeOf, typeInfo, hi])
          rcases hx.of_slc with ⟨h1, h2⟩ | ⟨b, off, j, ro, c', rfl, h2, h3, h4, h5, h6, h7, h8, h9⟩
          · obtain ⟨b, off, sp⟩ := a
            cases h1
            exact key _ _ .ext h2
          · have hro := h8 (by omega)
            subst hro
            exact key _ _ (.own h3) h2
        · exact .not
    | array len e =>
      cases hi : P.info? e with
      | none => simp only [hi]; exact .not
      | some i =>
        simp only [hi]
        refine Ans.onO fun n hn => Ans.onO fun a ha => Ans.cond' fun hb => ?_
        rw [fA_eq]
        have ha := vP_eq ha
        obtain ⟨kd, hn⟩ := vN_eq hn
        have hb := blt_lt hb
        refine Ans.yes (Ok.still fun ι ρ hρ => ?_)
        have hx := hρ x (by simp [ho, Op.operands])
        have hix := hρ ix (by simp [ho, Op.operands])
        rw [ha] at hx
        rw [hn] at hix
        have hix := hix.int
        obtain ⟨a', ha', har⟩ := VR.of_ptr hx
        refine ⟨_, (har.padd _).ptr, fun W => ?_⟩
        have hlt : (n : Int) < (len : Int) := by omega
        simp only [execOp, ho]
        exact run_v (by simp [Instr.indexAt, run_underlying hu, hix, asIntOf, ha', Instr.sureAddr, hlt, hb, sizeOf, typeInfo, hi])
    | _ => exact .not

theorem index_ok {γ : Type} {no : γ} {k : Value → PS → γ} {t : TypeId} {x ix : Operand} (ho : o.op = .index t x ix) : Ans no k (Ok P W0 o fr s) (pIndex no P o t x ix fr s k) := by
  unfold pIndex
  split
  · rename_i cs hcs
    have hcs := vG_eq hcs
    cases hu : P.underlying t with
    | none => exact .not
    | some d =>
      cases d with
      | array len e =>
        cases hi : P.info? e with
        | none => simp only [hi]; exact .not
        | some i =>
          simp only [hi]
          refine Ans.onO fun n hn => Ans.cond' fun hb => Ans.onO fun v hv => ?_
          rw [fV_eq]
          obtain ⟨kd, hn⟩ := vN_eq hn
          have hb := blt_lt hb
          refine Ans.yes (Ok.still fun ι ρ hρ => ?_)
          have hx := hρ x (by simp [ho, Op.operands])
          have hix := hρ ix (by simp [ho, Op.operands])
          have hc := hx.cells
          rw [hcs] at hx hc
          rw [hn] at hix
          have hix := hix.int
          obtain ⟨l, hl⟩ : ∃ l, ρ x = .agg l := by
            generalize ρ x = y at hx
            cases hx with
            | atom h => simp [atom] at h
            | agg _ _ => exact ⟨_, rfl⟩
          rw [hl] at hc
          have hc : LR ι cs.toList l.toList := hc
          obtain ⟨r, hr, hrun⟩ := part_rel hv hc
          refine ⟨r, hr, fun W => ?_⟩
          have hlt : (n : Int) < (len : Int) := by omega
          simp only [execOp, ho]
          exact run_v (by simp [Instr.index, run_underlying hu, hix, asIntOf, hl, hlt, hb, sizeOf, typeInfo, hi, hrun])
      | _ => exact .not
  · exact quiet_ok' (by simp [ho])

theorem extract_ok {γ : Type} {no : γ} {k : Value → PS → γ} {t : Operand} {ix : Nat} (ho : o.op = .extract t ix) :
    Ans no k (Ok P W0 o fr s) (onO no (vT (opd t fr)) fun vs => onO no (nth vs ix) fun x => k x s) := by
  refine Ans.onO fun vs hvs => Ans.onO fun x hx => Ans.yes (Ok.still fun ι ρ hρ => ?_)
  have hvs := vT_eq hvs
  rw [nth_eq] at hx
  have ht := hρ t (by simp [ho, Op.operands])
  rw [hvs] at ht
  generalize hy : ρ t = y at ht
  cases ht with
  | atom h => simp [atom] at h
  | tuple hl hh =>
    rename_i l'
    obtain ⟨r, hr, hvr⟩ := LR.at ⟨hl, hh⟩ hx
    refine ⟨r, hvr, fun W => ?_⟩
    have hr' : (⟨l'⟩ : Array Value)[ix]? = some r := by simpa using hr
    simp only [execOp, ho]
    exact run_v (by simp [Instr.extract, hy, hr])

theorem makeInterface_ok {γ : Type} {no : γ} {k : Value → PS → γ} {t : TypeId} {x : Operand} {d : TypeDesc} (ho : o.op = .makeInterface t x) (hu : P.underlying t = some d) (hd : ∀ ms, d ≠ .interface ms) :
    Ans no k (Ok P W0 o fr s) (fV (.iface t (opd x fr)) fun v => k v s) := by
  rw [fV_eq]
  refine Ans.yes (Ok.still fun ι ρ hρ => ⟨.iface t (ρ x), .iface (hρ x (by simp [ho, Op.operands])), fun W => ?_⟩)
  simp only [execOp, ho]
  refine run_v ?_
  simp only [Instr.makeInterface, Sem.run_bind, run_underlying hu, Result.andThen_ok]
  cases d <;> first | rfl | exact absurd rfl (hd _)

theorem opds_eq (l : List Operand) : opds l fr = l.map fun x => opd x fr := by
  induction l with
  | nil => rfl
  | cons x l ih => show opd x fr :: opds l fr = _; rw [ih]; rfl
theorem LR.map {ι : Nat → Option Info} {ρ : Operand → Value} (l : List Operand) (h : ∀ x ∈ l, VR ι (opd x fr) (ρ x)) : LR ι (l.map fun x => opd x fr) (l.map ρ) := by
  induction l with
  | nil => exact .nil
  | cons x l ih => exact .cons (h x (by simp)) (ih fun y hy => h y (by simp [hy]))
theorem makeFunc_ok {fn : Fn} {first cap : Array Operand} (ho : o.op = .makeFunc fn first cap) : Ok P W0 o fr s (.func fn ⟨opds first.toList fr⟩ ⟨opds cap.toList fr⟩) s := by
  refine Ok.still fun ι ρ hρ => ⟨.func fn (first.map ρ) (cap.map ρ), ?_, fun W => by simp only [execOp, ho]; exact run_v rfl⟩
  have h1 := LR.map (fr := fr) first.toList fun x hx => hρ x (by simp only [ho, Op.operands, Array.mem_append]; exact .inl (by simpa using hx))
  have h2 := LR.map (fr := fr) cap.toList fun x hx => hρ x (by simp only [ho, Op.operands, Array.mem_append]; exact .inr (by simpa using hx))
  rw [opds_eq, opds_eq]
  have e : ∀ a : Array Operand, a.map ρ = ⟨a.toList.map ρ⟩ := fun a => by apply Array.ext'; simp
  rw [e, e]
  exact .func h1.1 h1.2 h2.1 h2.2

theorem VR.of_iface {ι : Nat → Option Info} {t : TypeId} {v r : Value} (h : VR ι (.iface t v) r) : ∃ w, r = .iface t w ∧ VR ι v w := by
  cases h with
  | atom h => simp [Vm.atom] at h
  | iface h => exact ⟨_, rfl, h⟩
theorem VR.pair {ι : Nat → Option Info} {v r w u : Value} (h : VR ι v r) (h' : VR ι w u) : VR ι (.tuple ⟨[v, w]⟩) (.tuple ⟨[r, u]⟩) :=
  have := LR.cons h (LR.cons h' LR.nil)
  .tuple this.1 this.2

theorem assert_ok {γ : Type} {no : γ} {k : Value → PS → γ} {x : Operand} {xt t : TypeId} {ok : Bool} (ho : o.op = .typeAssert x xt t ok) : Ans no k (Ok P W0 o fr s) (pAssert no P x t ok fr s k) := by
  unfold pAssert
  cases hu : P.underlying t with
  | none => exact .not
  | some d =>
    have key : (∀ ms, d ≠ .interface ms) → Ans no k (Ok P W0 o fr s) ((fun fr s k => match vF (opd x fr) with
        | .ifc u y => bif Nat.beq u t then fV (bif ok then .tuple #[y, .bool true] else y) (fun v => k v s) else
            bif ok then (match P.info? t with
              | some i => match i.zero with
                | some z => bif plain z then fV (.tuple #[z, .bool false]) (fun v => k v s) else no
                | none => no
              | none => no)
            else no
        | .no => no : Fr → PS → (Value → PS → γ) → γ) fr s k) := by
      intro hd
      simp only []
      split
      · rename_i u y hy
        have hy := vF_eq hy
        refine Ans.cond (fun he => ?_) fun he => ?_
        · rw [fV_eq]
          have he := Nat.eq_of_beq_eq_true he
          subst he
          refine Ans.yes (Ok.still fun ι ρ hρ => ?_)
          have hx := hρ x (by simp [ho, Op.operands])
          rw [hy] at hx
          obtain ⟨w, hw, hyw⟩ := hx.of_iface
          refine ⟨if ok then .tuple #[w, .bool true] else w, ?_, fun W => ?_⟩
          · cases ok with
            | true => exact hyw.pair (.atom rfl)
            | false => exact hyw
          · simp only [execOp, ho]
            refine run_v ?_
            simp only [Instr.typeAssert, Sem.run_bind, run_underlying hu, Result.andThen_ok, hw]
            cases d <;> first | exact absurd rfl (hd _) | simp
        · refine Ans.cond' fun hok => ?_
          split
          · rename_i i hi
            split
            · rename_i z hz
              refine Ans.cond' fun hp => ?_
              rw [fV_eq]
              have he : ¬ u = t := fun e => by subst e; simp at he
              refine Ans.yes (Ok.still fun ι ρ hρ => ?_)
              have hx := hρ x (by simp [ho, Op.operands])
              rw [hy] at hx
              obtain ⟨w, hw, hyw⟩ := hx.of_iface
              refine ⟨.tuple #[z, .bool false], (VR.of_plain hp).pair (.atom rfl), fun W => ?_⟩
              simp only [execOp, ho]
              refine run_v ?_
              subst hok
              simp only [Instr.typeAssert, Sem.run_bind, run_underlying hu, Result.andThen_ok, hw]
              cases d <;> first | exact absurd rfl (hd _) | simp [he, zeroValue, typeInfo, hi, hz]
            · exact .not
          · exact .not
      · exact .not
    cases d <;> first | exact .not | exact key (fun ms h => by cases h)

theorem AR.inv {ι : Nat → Option Info} {b o sp : Nat} {a' : Addr} (h : AR ι ⟨b, o, some sp⟩ a') : ∃ i, sp = 0 ∧ ι b = some i ∧ a' = ⟨i.g, i.sh + o, none⟩ := by
  cases h with
  | own h => exact ⟨_, rfl, h, rfl⟩

/-! ### Slices of slices -/
theorem bound_ok {γ : Type} {no : γ} {k : Value → PS → γ} {R : Value → PS → Prop} {top : Nat} {x : Operand} {f : Nat → γ} (h : ∀ n kd, opd x fr = .int kd (.ofNat n) → n ≤ top → Ans no k R (f n)) : Ans no k R (bound no top (opd x fr) f) := by
  refine Ans.onO fun n hn => Ans.cond' fun hb => ?_
  obtain ⟨kd, hn⟩ := vN_eq hn
  exact h n kd hn (Nat.le_of_ble_eq_true hb)
/-- A bound of ours, and the real one. -/
def BoundAt (fr : Fr) (top none' : Nat) (x : Option Operand) (n : Nat) : Prop :=
  match x with
  | none => n = none'
  | some x => ∃ kd, opd x fr = .int kd (.ofNat n) ∧ n ≤ top
theorem boundO_ok {γ : Type} {no : γ} {k : Value → PS → γ} {R : Value → PS → Prop} {top none' : Nat} {x : Option Operand} {f : Nat → γ} (h : ∀ n, BoundAt fr top none' x n → Ans no k R (f n)) : Ans no k R (boundO no top none' x fr f) := by
  cases x with
  | none => exact h none' rfl
  | some x => exact bound_ok fun n kd h1 h2 => h n ⟨kd, h1, h2⟩
theorem run_sliceBound {y n : Nat} {kd : IntKind} {code : BoundsCode} (h : n ≤ y) (W : World) : (Instr.sliceBound (.int kd (.ofNat n)) y code).run P W = .ok n W := by
  have h' : (n : Int) ≤ (y : Int) := by omega
  simp [Instr.sliceBound, asIntOf, h, h']

theorem slice_ok {γ : Type} {no : γ} {k : Value → PS → γ} {size b off ln cap : Nat} {lo hi mx : Option Operand}
    (H : ∀ l h m, (h ≤ m ∧ l ≤ h) → BoundAt fr cap cap mx m → BoundAt fr m ln hi h → BoundAt fr h 0 lo l → (mx.isSome = true → hi.isSome = true) →
      ∀ s1 pb, s1 = (⟨s.heap, s.next, Nat.lor s.rd (bit b), s.wr⟩ : PS) → getH b s.heap = some pb → pb.stride = size → Ok P W0 o fr s (.slice (some (here b (off + l * size))) (h - l) (m - l)) s1) :
    Ans no k (Ok P W0 o fr s) (pSlice no fr s size b off ln cap lo hi mx k) := by
  refine Ans.onO fun pb hpb => Ans.cond' fun hc => boundO_ok fun m hm => boundO_ok fun h hh => boundO_ok fun l hl => Ans.cond' fun hb => ?_
  rw [touch_eq, f0_eq]
  simp only [Bool.and_eq_true, Bool.not_eq_true'] at hc hb
  refine Ans.yes (H l h m ⟨Nat.le_of_ble_eq_true hb.1, Nat.le_of_ble_eq_true hb.2⟩ hm hh hl ?_ _ pb rfl hpb (Nat.eq_of_beq_eq_true hc.1))
  intro hmx
  have := hc.2
  rw [hmx] at this
  cases hi <;> simp at this ⊢

/-- The bounds of a slice, as the real machine reads them. -/
theorem run_bounds {ι : Nat → Option Info} {ρ : Operand → Value} {isSlice : Bool} {ln cap cap' l h m : Nat} {lo hi mx : Option Operand} (hle : h ≤ m ∧ l ≤ h) (hm : BoundAt fr cap cap mx m) (hh : BoundAt fr m ln hi h) (hl : BoundAt fr h 0 lo l)
    (hmx : mx.isSome = true → hi.isSome = true) (hcap : cap ≤ cap') (ρlo : ∀ x, lo = some x → VR ι (opd x fr) (ρ x)) (ρhi : ∀ x, hi = some x → VR ι (opd x fr) (ρ x)) (ρmx : ∀ x, mx = some x → VR ι (opd x fr) (ρ x)) (W : World) :
    (Instr.sliceBounds isSlice ln cap' (lo.map ρ) (hi.map ρ) (mx.map ρ)).run P W = .ok (l, h, if mx.isSome then m else cap') W := by
  have hlo : (lo.map ρ = none ∧ l = 0) ∨ ∃ v, lo.map ρ = some v ∧ ∀ code W, (Instr.sliceBound v h code).run P W = .ok l W := by
    cases lo with
    | none => exact .inl ⟨rfl, hl⟩
    | some x =>
      obtain ⟨kd, h1, h2⟩ := hl
      have := ρlo x rfl
      rw [h1] at this
      exact .inr ⟨ρ x, rfl, fun code W => by rw [this.int]; exact run_sliceBound h2 W⟩
  cases mx with
  | none =>
    simp only [BoundAt] at hm
    subst hm
    cases hi with
    | none =>
      simp only [BoundAt] at hh
      subst hh
      rcases hlo with ⟨e1, e2⟩ | ⟨v, e1, e2⟩
      · simp [Instr.sliceBounds, e1, e2]
      · simp [Instr.sliceBounds, e1, e2]
    | some x =>
      obtain ⟨kd, h1, h2⟩ := hh
      have := ρhi x rfl
      rw [h1] at this
      rcases hlo with ⟨e1, e2⟩ | ⟨v, e1, e2⟩
      · simp [Instr.sliceBounds, e1, e2, this.int, run_sliceBound (Nat.le_trans h2 hcap), -Int.ofNat_eq_natCast]
      · simp [Instr.sliceBounds, e1, e2, this.int, run_sliceBound (Nat.le_trans h2 hcap), -Int.ofNat_eq_natCast]
  | some y =>
    obtain ⟨kd, h1, h2⟩ := hm
    have hy := ρmx y rfl
    rw [h1] at hy
    cases hi with
    | none => simp at hmx
    | some x =>
      obtain ⟨kd', h3, h4⟩ := hh
      have hx := ρhi x rfl
      rw [h3] at hx
      rcases hlo with ⟨e1, e2⟩ | ⟨v, e1, e2⟩
      · simp [Instr.sliceBounds, e1, e2, hy.int, hx.int, run_sliceBound (Nat.le_trans h2 hcap), run_sliceBound h4, -Int.ofNat_eq_natCast]
      · simp [Instr.sliceBounds, e1, e2, hy.int, hx.int, run_sliceBound (Nat.le_trans h2 hcap), run_sliceBound h4, -Int.ofNat_eq_natCast]

theorem opSlice_ok {γ : Type} {no : γ} {k : Value → PS → γ} {t : TypeId} {x : Operand} {lo hi mx : Option Operand} (ho : o.op = .slice t x lo hi mx) : Ans no k (Ok P W0 o fr s) (pSliceOp no P o t x lo hi mx fr s k) := by
  have ops : ∀ (ι : Nat → Option Info) (ρ : Operand → Value), (∀ y ∈ o.op.operands, VR ι (opd y fr) (ρ y)) → VR ι (opd x fr) (ρ x) ∧ (∀ y, lo = some y → VR ι (opd y fr) (ρ y)) ∧ (∀ y, hi = some y → VR ι (opd y fr) (ρ y)) ∧ (∀ y, mx = some y → VR ι (opd y fr) (ρ y)) :=
    fun ι ρ hρ => ⟨hρ x (by simp [ho, Op.operands]), fun y hy => hρ y (by subst hy; simp [ho, Op.operands]), fun y hy => hρ y (by subst hy; simp [ho, Op.operands]), fun y hy => hρ y (by subst hy; simp [ho, Op.operands])⟩
  unfold pSliceOp
  cases hu : P.underlying t with
  | none => exact quiet_ok' (by simp [ho])
  | some d =>
    cases d with
    | slice e =>
      cases hi' : P.info? e with
      | none => simp only [hi']; exact .not
      | some i =>
        simp only [hi']
        split
        · rename_i b off sp ln cap hs
          have hs := vS_eq hs
          refine slice_ok fun l h m hle hm hh hl hmx s1 pb hs1 hpb hst => ?_
          subst hs1
          refine ⟨PL.touch s b, fun M hM ι ρ W hR hρ hF => ?_⟩
          obtain ⟨hx, ρlo, ρhi, ρmx⟩ := ops ι ρ hρ
          rw [hs] at hx
          rcases hx.of_slc with ⟨h1, h2⟩ | ⟨b', off', j, ro, c', heq, h2, h3, h4, h5, h6, h7, h8, h9⟩
          · cases h1
          · injection heq with e1 e2 e3
            subst e1
            subst e2
            have hMb : M b := hM b (.inl ((inM_lor _ _ b).2 (.inr (inM_bit b))))
            obtain ⟨j', rc, fz, hj', hg, hfz, hB, hp, hr, hstr, hfit, hcell⟩ := hR.blk b pb hMb (by simp [hv, hpb])
            rw [h3] at hj'
            injection hj' with e
            subst e
            have hsz : j.stride = i.size := hstr.trans hst
            have hrb := run_bounds (P := P) (isSlice := true) hle hm hh hl hmx h5 ρlo ρhi ρmx W
            have hmcap : m ≤ cap ∧ (mx.isSome = false → m = cap) := by
              cases mx with
              | none => simp only [BoundAt] at hm; exact ⟨Nat.le_of_eq hm, fun _ => hm⟩
              | some y => obtain ⟨_, _, h⟩ := hm; exact ⟨h, fun h => by cases h⟩
            refine Does.value (r := .slice (if (if mx.isSome then m else c') = l then some ⟨j.g, ro, none⟩ else some ((⟨j.g, ro, none⟩ : Addr).add (l * i.size))) (h - l) ((if mx.isSome then m else c') - l)) (W' := W) ?_
              ⟨ι, ?_, Post.refl hR _ _⟩
            · simp only [execOp, ho]
              refine run_v ?_
              have hrb' := hrb
              simp only [Instr.sliceAt, Sem.run_bind, run_underlying hu, Result.andThen_ok, Instr.slice, h2, hrb, sizeOf, typeInfo, run_program, hi', Sem.run_pure]
              rfl
            · generalize hmm : (if mx.isSome then m else c') = m'
              have hm' : m ≤ m' := by
                rw [← hmm]
                split
                · exact Nat.le_refl _
                · rename_i hx; rw [hmcap.2 (by simpa using hx)]; exact h5
              have hm'' : m' ≤ c' := by
                rw [← hmm]
                split
                · exact Nat.le_trans hmcap.1 h5
                · exact Nat.le_refl _
              have hlc : l * j.stride ≤ cap * j.stride := Nat.mul_le_mul_right _ (by omega)
              have hmc : m * j.stride ≤ cap * j.stride := Nat.mul_le_mul_right _ (by omega)
              have hsplit : ∀ q, l ≤ q → l * j.stride + (q - l) * j.stride = q * j.stride := fun q hq => by rw [← Nat.add_mul]; congr 1; omega
              have h1m := hsplit m (by omega)
              have h1m' := hsplit m' (by omega)
              have hm'c : m' * j.stride ≤ c' * j.stride := Nat.mul_le_mul_right _ hm''
              rw [← hsz] at *
              by_cases hml : m' = l
              · rw [if_pos hml]
                have : m = l := by omega
                subst this
                have e0 : m - m = 0 := Nat.sub_self _
                rw [hml, e0]
                have hhm : h - m = 0 := by omega
                rw [hhm]
                exact VR.slc h3 (Nat.le_refl _) (Nat.le_refl _) (fun _ => rfl) (by simp; omega) (fun h => absurd h (Nat.lt_irrefl _)) (by simp; omega)
              · rw [if_neg hml, add_none]
                refine VR.slc h3 (by omega) (by omega) (fun hlt => ?_) (by omega) (fun hlt => ?_) (by omega)
                · rw [← hmm]
                  split
                  · rfl
                  · rename_i hx
                    have hmx := hmcap.2 (by simpa using hx)
                    subst hmx
                    rw [h6 (by omega)]
                · have := h8 (by omega)
                  omega
        · exact quiet_ok' (by simp [ho])
    | array n e =>
      cases hi' : P.info? e with
      | none => simp only [hi']; exact .not
      | some i =>
        simp only [hi']
        split
        · rename_i b off sp hs
          have hs := vP_eq hs
          refine Ans.onO fun pb0 hpb0 => Ans.cond' fun hin => ?_
          have hin := Nat.le_of_ble_eq_true hin
          rw [len_eq] at hin
          refine slice_ok fun l h m hle hm hh hl hmx s1 pb hs1 hpb hst => ?_
          subst hs1
          rw [hpb] at hpb0
          injection hpb0 with hpb0
          subst hpb0
          refine ⟨PL.touch s b, fun M hM ι ρ W hR hρ hF => ?_⟩
          obtain ⟨hx, ρlo, ρhi, ρmx⟩ := ops ι ρ hρ
          rw [hs] at hx
          obtain ⟨a', ha', har⟩ := VR.of_ptr hx
          obtain ⟨j, hsp, h3, rfl⟩ := har.inv
          have hMb : M b := hM b (.inl ((inM_lor _ _ b).2 (.inr (inM_bit b))))
          obtain ⟨j', rc, fz, hj', hg, hfz, hB, hp, hr, hstr, hfit, hcell⟩ := hR.blk b pb hMb (by simp [hv, hpb])
          rw [h3] at hj'
          injection hj' with e
          subst e
          have hsz : j.stride = i.size := hstr.trans hst
          have hrb := run_bounds (P := P) (isSlice := false) hle hm hh hl hmx (Nat.le_refl _) ρlo ρhi ρmx W
          have hmcap : m ≤ n ∧ (mx.isSome = false → m = n) := by
            cases mx with
            | none => simp only [BoundAt] at hm; exact ⟨Nat.le_of_eq hm, fun _ => hm⟩
            | some y => obtain ⟨_, _, h⟩ := hm; exact ⟨h, fun h => by cases h⟩
          have hmm : (if mx.isSome then m else n) = m := by
            split
            · rfl
            · rename_i hx; rw [hmcap.2 (by simpa using hx)]
          rw [hmm] at hrb
          refine Does.value (r := .slice (some (if m = l then ⟨j.g, j.sh + off, none⟩ else (⟨j.g, j.sh + off, none⟩ : Addr).add (l * i.size))) (h - l) (m - l)) (W' := W) ?_ ⟨ι, ?_, Post.refl hR _ _⟩
          · simp only [execOp, ho]
            refine run_v ?_
            simp only [Instr.sliceAt, Sem.run_bind, run_underlying hu, Result.andThen_ok, ha', Instr.sureAddr, hrb, sizeOf, typeInfo, run_program, hi', Sem.run_pure]
          · have hmc : m * j.stride ≤ n * j.stride := Nat.mul_le_mul_right _ hmcap.1
            have hlm : l * j.stride ≤ m * j.stride := Nat.mul_le_mul_right _ (by omega)
            have hsplit : l * j.stride + (m - l) * j.stride = m * j.stride := by rw [← Nat.add_mul]; congr 1; omega
            rw [← hsz] at hin ⊢
            by_cases hml : m = l
            · rw [if_pos hml]
              subst hml
              have hhm : h - m = 0 := by omega
              rw [hhm, Nat.sub_self]
              exact VR.slc h3 (Nat.le_refl _) (Nat.le_refl _) (fun _ => rfl) (by simp; omega) (fun h => absurd h (Nat.lt_irrefl _)) (by simp; omega)
            · rw [if_neg hml, add_none]
              exact VR.slc h3 (by omega) (Nat.le_refl _) (fun _ => rfl) (by omega) (fun _ => by omega) (by omega)
        · exact .not
    | _ => exact quiet_ok' (by simp [ho])
end
end Go.Proofs.YtoimffkejoeadaaGreatDoor.Vm
