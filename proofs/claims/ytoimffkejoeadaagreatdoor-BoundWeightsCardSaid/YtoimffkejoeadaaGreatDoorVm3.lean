/- The machine of our own and the real one: which values, and which memories, are alike. -/
import Derived.Test.YtoimffkejoeadaaGreatDoorVm2
namespace Go.Proofs.YtoimffkejoeadaaGreatDoor.Vm
open Go Go.RowKit
set_option linter.unusedVariables false
set_option linter.unusedSimpArgs false

/-- Where a block of ours lies: the real block, from which cell on, how many cells of ours, how many in all, how many an element. -/
structure Info where
  g : Nat
  sh : Nat
  psz : Nat
  rsz : Nat
  stride : Nat

inductive VR (ι : Nat → Option Info) : Value → Value → Prop
  | atom {v : Value} (h : atom v = true) : VR ι v v
  | ptr {b o : Nat} {i : Info} (h : ι b = some i) : VR ι (.pointer (some (here b o))) (.pointer (some ⟨i.g, i.sh + o, none⟩))
  | slc {b o n c ro c' : Nat} {i : Info} (h : ι b = some i) (hn : n ≤ c) (hc : c ≤ c') (he : o + c * i.stride < i.psz → c' = c) (ho : o + c * i.stride ≤ i.psz)
      (hp : 0 < c → ro = i.sh + o) (hr : ro + c' * i.stride ≤ i.rsz) : VR ι (.slice (some (here b o)) n c) (.slice (some ⟨i.g, ro, none⟩) n c')
  | func {fn : Fn} {l m l' m' : List Value} (hl : l.length = l'.length) (h : ∀ (i : Nat) (u v : Value), l[i]? = some u → l'[i]? = some v → VR ι u v)
      (hm : m.length = m'.length) (hh : ∀ (i : Nat) (u v : Value), m[i]? = some u → m'[i]? = some v → VR ι u v) : VR ι (.func fn ⟨l⟩ ⟨m⟩) (.func fn ⟨l'⟩ ⟨m'⟩)
  | iface {t : TypeId} {v v' : Value} (h : VR ι v v') : VR ι (.iface t v) (.iface t v')
  | agg {l l' : List Value} (hl : l.length = l'.length) (h : ∀ (i : Nat) (u v : Value), l[i]? = some u → l'[i]? = some v → VR ι u v) : VR ι (.agg ⟨l⟩) (.agg ⟨l'⟩)
  | tuple {l l' : List Value} (hl : l.length = l'.length) (h : ∀ (i : Nat) (u v : Value), l[i]? = some u → l'[i]? = some v → VR ι u v) : VR ι (.tuple ⟨l⟩) (.tuple ⟨l'⟩)

def LR (ι : Nat → Option Info) (l l' : List Value) : Prop := l.length = l'.length ∧ ∀ (i : Nat) (u v : Value), l[i]? = some u → l'[i]? = some v → VR ι u v

section
variable {ι ι' : Nat → Option Info}
theorem VR.mono {v r : Value} (h : VR ι v r) (e : ∀ b i, ι b = some i → ι' b = some i) : VR ι' v r := by
  induction h with
  | atom h => exact .atom h
  | ptr h => exact .ptr (e _ _ h)
  | slc h hn hc he ho hp hr => exact .slc (e _ _ h) hn hc he ho hp hr
  | func hl h hm hh ih ihh => exact .func hl (fun i u v a b => ih i u v a b) hm (fun i u v a b => ihh i u v a b)
  | iface h ih => exact .iface ih
  | agg hl h ih => exact .agg hl (fun i u v a b => ih i u v a b)
  | tuple hl h ih => exact .tuple hl (fun i u v a b => ih i u v a b)
theorem LR.mono {l l' : List Value} (h : LR ι l l') (e : ∀ b i, ι b = some i → ι' b = some i) : LR ι' l l' := ⟨h.1, fun i u v a b => (h.2 i u v a b).mono e⟩
theorem LR.nil : LR ι [] [] := ⟨rfl, fun i u v h => by simp at h⟩
theorem LR.cons {v r : Value} {l l' : List Value} (h : VR ι v r) (k : LR ι l l') : LR ι (v :: l) (r :: l') := by
  refine ⟨by simp [k.1], fun i u w a b => ?_⟩
  cases i with
  | zero => simp at a b; subst a; subst b; exact h
  | succ i => exact k.2 i u w (by simpa using a) (by simpa using b)
theorem LR.append {l l' m m' : List Value} (h : LR ι l l') (k : LR ι m m') : LR ι (l ++ m) (l' ++ m') := by
  refine ⟨by simp [h.1, k.1], fun i u w a b => ?_⟩
  rcases Nat.lt_or_ge i l.length with hi | hi
  · rw [List.getElem?_append_left hi] at a
    rw [List.getElem?_append_left (by rw [← h.1]; exact hi)] at b
    exact h.2 i u w a b
  · rw [List.getElem?_append_right hi] at a
    rw [List.getElem?_append_right (by rw [← h.1]; exact hi), ← h.1] at b
    exact k.2 _ u w a b
theorem LR.take {l l' : List Value} (h : LR ι l l') (n : Nat) : LR ι (l.take n) (l'.take n) := by
  refine ⟨by simp [h.1], fun i u w a b => ?_⟩
  rw [List.getElem?_take] at a b
  split at a
  · rename_i hi
    rw [if_pos hi] at b
    exact h.2 i u w a b
  · simp at a
theorem LR.drop {l l' : List Value} (h : LR ι l l') (n : Nat) : LR ι (l.drop n) (l'.drop n) := by
  refine ⟨by simp [h.1], fun i u w a b => ?_⟩
  rw [List.getElem?_drop] at a b
  exact h.2 _ u w a b
theorem LR.at {l l' : List Value} (h : LR ι l l') {i : Nat} {u : Value} (a : l[i]? = some u) : ∃ v, l'[i]? = some v ∧ VR ι u v := by
  have hi : i < l'.length := by rw [← h.1]; exact (List.getElem?_eq_some_iff.1 a).1
  exact ⟨l'[i], List.getElem?_eq_getElem hi, h.2 i u _ a (List.getElem?_eq_getElem hi)⟩
theorem LR.inv_cons {v : Value} {l l' : List Value} (h : LR ι (v :: l) l') : ∃ r m, l' = r :: m ∧ VR ι v r ∧ LR ι l m := by
  cases l' with
  | nil => exact absurd h.1 (by simp)
  | cons r m => exact ⟨r, m, rfl, h.2 0 v r rfl rfl, by simpa using h.1, fun i u w a b => h.2 (i + 1) u w (by simpa using a) (by simpa using b)⟩
theorem LR.inv_nil {l' : List Value} (h : LR ι [] l') : l' = [] := List.length_eq_zero_iff.1 h.1.symm
theorem LR.of_atoms {l : List Value} (h : ∀ v ∈ l, Vm.atom v = true) : LR ι l l := by
  refine ⟨rfl, fun i u v a b => ?_⟩
  rw [a] at b
  injection b with b
  subst b
  exact .atom (h u (List.mem_of_getElem? a))
theorem VR.of_atom {v : Value} (h : Vm.atom v = true) : VR ι v v := .atom h
theorem VR.of_plain {v : Value} (h : plain v = true) : VR ι v v := by
  unfold plain at h
  split at h
  · rename_i cs
    exact .agg (l := cs.toList) (l' := cs.toList) rfl (LR.of_atoms ((atoms_eq _).1 h)).2
  · rename_i t cs
    exact .iface (.agg (l := cs.toList) (l' := cs.toList) rfl (LR.of_atoms ((atoms_eq _).1 h)).2)
  · exact .iface (.atom h)
  · exact .atom h
theorem VR.atom_eq {v r : Value} (h : Vm.atom v = true) (k : VR ι v r) : r = v := by
  cases k with
  | atom _ => rfl
  | ptr _ => simp [Vm.atom, here] at h
  | slc _ _ _ _ _ _ _ => simp [Vm.atom, here] at h
  | func _ _ _ _ => simp [Vm.atom] at h
  | iface _ => simp [Vm.atom] at h
  | agg _ _ => simp [Vm.atom] at h
  | tuple _ _ => simp [Vm.atom] at h
theorem LR.atoms_eq {l l' : List Value} (h : ∀ v ∈ l, Vm.atom v = true) (k : LR ι l l') : l' = l := by
  apply List.ext_getElem?
  intro i
  cases a : l[i]? with
  | none =>
    have h2 : l'.length ≤ i := k.1 ▸ List.getElem?_eq_none_iff.1 a
    exact List.getElem?_eq_none_iff.2 h2
  | some u =>
    obtain ⟨v, hv, hr⟩ := k.at a
    rw [hv, VR.atom_eq (h u (List.mem_of_getElem? a)) hr]
theorem VR.plain_eq {v r : Value} (h : plain v = true) (k : VR ι v r) : r = v := by
  cases k with
  | atom _ => rfl
  | ptr _ => simp [plain, Vm.atom, here] at h
  | slc _ _ _ _ _ _ _ => simp [plain, Vm.atom, here] at h
  | func _ _ _ _ => simp [plain, Vm.atom] at h
  | iface k =>
    cases k with
    | atom _ => rfl
    | ptr _ => simp [plain, Vm.atom, here] at h
    | slc _ _ _ _ _ _ _ => simp [plain, Vm.atom, here] at h
    | func _ _ _ _ => simp [plain, Vm.atom] at h
    | iface _ => simp [plain, Vm.atom] at h
    | agg hl hh =>
      have : _ = _ := LR.atoms_eq ((Vm.atoms_eq _).1 h) ⟨hl, hh⟩
      rw [this]
    | tuple _ _ => simp [plain, Vm.atom] at h
  | agg hl hh =>
    have : _ = _ := LR.atoms_eq ((Vm.atoms_eq _).1 h) ⟨hl, hh⟩
    rw [this]
  | tuple _ _ => simp [plain, Vm.atom] at h
theorem VR.cells {v r : Value} (h : VR ι v r) : LR ι v.cells.toList r.cells.toList := by
  have one : ∀ {u w : Value}, VR ι u w → LR ι [u] [w] := fun h => LR.cons h LR.nil
  cases h with
  | atom h => cases v <;> first | exact one (.atom h) | (simp [Vm.atom] at h)
  | ptr h => exact one (.ptr h)
  | slc h hn hc he ho hp hr => exact one (.slc h hn hc he ho hp hr)
  | func hl h hm hh => exact one (.func hl h hm hh)
  | iface h => exact one (.iface h)
  | agg hl h => exact ⟨hl, h⟩
  | tuple hl h => exact one (.tuple hl h)
theorem VR.vB {v r : Value} (h : VR ι v r) : vB r = vB v := by cases h <;> rfl
theorem VR.vI {v r : Value} (h : VR ι v r) : vI r = vI v := by cases h <;> rfl
theorem VR.vN {v r : Value} (h : VR ι v r) : vN r = vN v := by cases h <;> rfl
theorem VR.one {v r : Value} (h : VR ι v r) : one r = one v := by cases h <;> rfl

/-- Addresses that are alike. -/
inductive AR (ι : Nat → Option Info) : Addr → Addr → Prop
  | ext {b o : Nat} : AR ι ⟨b, o, none⟩ ⟨b, o, none⟩
  | own {b o : Nat} {i : Info} (h : ι b = some i) : AR ι (here b o) ⟨i.g, i.sh + o, none⟩
theorem VR.of_ptr {a : Addr} {r : Value} (h : VR ι (.pointer (some a)) r) : ∃ a', r = .pointer (some a') ∧ AR ι a a' := by
  cases h with
  | atom h =>
    obtain ⟨b, o, s⟩ := a
    cases s with
    | none => exact ⟨_, rfl, .ext⟩
    | some n => simp [Vm.atom] at h
  | ptr h => exact ⟨_, rfl, .own h⟩
theorem AR.ptr {a a' : Addr} (h : AR ι a a') : VR ι (.pointer (some a)) (.pointer (some a')) := by
  cases h with
  | ext => exact .atom rfl
  | own h => exact .ptr h
theorem AR.padd {a a' : Addr} (h : AR ι a a') (n : Nat) : AR ι (padd a n) (a'.add n) := by
  cases h with
  | ext =>
    rename_i b o
    have : (⟨b, o, none⟩ : Addr).add n = ⟨b, o + n, none⟩ := by unfold Addr.add; split <;> simp_all
    show AR ι (Addr.add ⟨b, o, none⟩ n) _
    rw [this]
    exact .ext
  | own h =>
    rename_i b o i
    have : (⟨i.g, i.sh + o, none⟩ : Addr).add n = ⟨i.g, i.sh + (o + n), none⟩ := by unfold Addr.add; split <;> simp_all [Nat.add_assoc]
    rw [this]
    exact AR.own (o := o + n) h
end

/-! ### Memories that are alike, at the blocks of a mask -/
noncomputable def hv (h : Hp) : Nat → Option PB := fun b => getH b h
def upd {α : Type} (h : Nat → Option α) (b : Nat) (x : Option α) : Nat → Option α := fun c => if c = b then x else h c
@[simp] theorem upd_same {α : Type} (h : Nat → Option α) (b : Nat) (x : Option α) : upd h b x b = x := by simp [upd]
theorem upd_other {α : Type} (h : Nat → Option α) (b c : Nat) (x : Option α) (hc : c ≠ b) : upd h b x c = h c := by simp [upd, hc]
theorem hv_put (h : Hp) (b : Nat) (x : Option PB) : hv (putH b x h) = upd (hv h) b x := by
  funext c
  unfold hv upd
  by_cases hc : c = b
  · subst hc; simp [getH_same]
  · simp [hc, getH_other b c x h hc]

structure RH (W0 : World) (ι : Nat → Option Info) (M : Nat → Prop) (h : Nat → Option PB) (W : World) : Prop where
  below : Below W0.heap.size W0 W
  blk : ∀ b pb, M b → h b = some pb → ∃ i rc fr, ι b = some i ∧ W.heap[i.g]? = some (.cells rc pb.elem fr) ∧ (∀ j, j < rc.size → (decide (fr.1 ≤ j) && decide (j < fr.2)) = false) ∧
    W0.heap.size ≤ i.g ∧ i.psz = pb.cells.length ∧ i.rsz = rc.size ∧ i.stride = pb.stride ∧ i.sh + i.psz ≤ i.rsz ∧
    ∀ j u, pb.cells[j]? = some u → ∃ v, rc[i.sh + j]? = some v ∧ VR ι u v
  inj : ∀ b b' i i', M b → M b' → h b ≠ none → h b' ≠ none → ι b = some i → ι b' = some i' → i.g = i'.g → b = b'

/-- What a step may turn, and what it leaves. -/
structure Post (W0 : World) (M : Nat → Prop) (ι : Nat → Option Info) (h : Nat → Option PB) (W : World) (n : Nat) (ι' : Nat → Option Info) (h' : Nat → Option PB) (W' : World) (n' : Nat) : Prop where
  rh : RH W0 ι' M h' W'
  ext : ∀ b i, ι b = some i → ι' b = some i
  new : ∀ b, ι b = none → ι' b ≠ none → n ≤ b ∧ b < n'
  size : W.heap.size ≤ W'.heap.size
  keep : ∀ g, g < W.heap.size → (∀ b i, M b → h b ≠ none → ι b = some i → i.g ≠ g) → W'.heap[g]? = W.heap[g]?
  own : ∀ b i, M b → h' b ≠ none → ι' b = some i → (∃ b0 i0, M b0 ∧ h b0 ≠ none ∧ ι b0 = some i0 ∧ i0.g = i.g) ∨ W.heap.size ≤ i.g

section
variable {W0 : World} {M : Nat → Prop} {ι ι1 ι2 : Nat → Option Info} {h h1 h2 : Nat → Option PB} {W W1 W2 : World} {n n1 n2 : Nat}
theorem Post.refl (hR : RH W0 ι M h W) (n n' : Nat) : Post W0 M ι h W n ι h W n' :=
  ⟨hR, fun _ _ e => e, fun b e e' => absurd e e', Nat.le_refl _, fun _ _ _ => rfl, fun b i hm hl he => .inl ⟨b, i, hm, hl, he, rfl⟩⟩
theorem Post.trans (p : Post W0 M ι h W n ι1 h1 W1 n1) (q : Post W0 M ι1 h1 W1 n1 ι2 h2 W2 n2) (l1 : n ≤ n1) (l2 : n1 ≤ n2) : Post W0 M ι h W n ι2 h2 W2 n2 where
  rh := q.rh
  ext b i e := q.ext b i (p.ext b i e)
  new b e e' := by
    cases e1 : ι1 b with
    | none => have := q.new b e1 e'; omega
    | some i => have := p.new b e (by simp [e1]); omega
  size := Nat.le_trans p.size q.size
  keep g hg hn := by
    rw [q.keep g (Nat.lt_of_lt_of_le hg p.size) (fun b i hm hl he hgi => ?_), p.keep g hg hn]
    rcases p.own b i hm hl he with ⟨b0, i0, hm0, hl0, he0, hg0⟩ | hge
    · exact hn b0 i0 hm0 hl0 he0 (hg0.trans hgi)
    · omega
  own b i hm hl he := by
    rcases q.own b i hm hl he with ⟨b0, i0, hm0, hl0, he0, hg0⟩ | hge
    · rcases p.own b0 i0 hm0 hl0 he0 with ⟨b1, i1, hm1, hl1, he1, hg1⟩ | hge
      · exact .inl ⟨b1, i1, hm1, hl1, he1, hg1.trans hg0⟩
      · exact .inr (by omega)
    · exact .inr (Nat.le_trans p.size hge)
/-- A draw turns nothing. -/
theorem RH.drew (hR : RH W0 ι M h W) : RH W0 ι M h W.drew := ⟨hR.below.drew, hR.blk, hR.inj⟩
theorem Post.drew (hR : RH W0 ι M h W) (n n' : Nat) : Post W0 M ι h W n ι h W.drew n' :=
  ⟨hR.drew, fun _ _ e => e, fun b e e' => absurd e e', Nat.le_refl _, fun _ _ _ => rfl, fun b i hm hl he => .inl ⟨b, i, hm, hl, he, rfl⟩⟩
end

/-- What a step keeps of our own memory. -/
structure PL (s s1 : PS) : Prop where
  next : s.next ≤ s1.next
  rd : ∀ b, inM s.rd b → inM s1.rd b
  wr : ∀ b, inM s.wr b → inM s1.wr b
  heap : ∀ b, hv s1.heap b ≠ hv s.heap b → inM s1.wr b
  new : ∀ b, s.next ≤ b → b < s1.next → inM s1.wr b
theorem PL.refl (s : PS) : PL s s := ⟨Nat.le_refl _, fun _ h => h, fun _ h => h, fun _ h => absurd rfl h, fun b h1 h2 => by omega⟩
theorem PL.trans {a b c : PS} (h : PL a b) (k : PL b c) : PL a c where
  next := Nat.le_trans h.next k.next
  rd x hx := k.rd x (h.rd x hx)
  wr x hx := k.wr x (h.wr x hx)
  heap x hn := by
    by_cases e : hv c.heap x = hv b.heap x
    · rw [e] at hn; exact k.wr x (h.heap x hn)
    · exact k.heap x e
  new x h1 h2 := by
    rcases Nat.lt_or_ge x b.next with h3 | h3
    · exact k.wr x (h.new x h1 h3)
    · exact k.new x h3 h2
theorem PL.touch (s : PS) (b : Nat) : PL s ⟨s.heap, s.next, Nat.lor s.rd (bit b), s.wr⟩ :=
  ⟨Nat.le_refl _, fun x h => (inM_lor _ _ x).2 (.inl h), fun _ h => h, fun _ h => absurd rfl h, fun x h1 h2 => by simp at h2; omega⟩
theorem PL.write (s : PS) (b : Nat) (x : Option PB) : PL s ⟨putH b x s.heap, s.next, s.rd, Nat.lor s.wr (bit b)⟩ where
  next := Nat.le_refl _
  rd _ h := h
  wr x h := (inM_lor _ _ x).2 (.inl h)
  heap c h := by
    refine (inM_lor _ _ c).2 (.inr ?_)
    by_cases hc : c = b
    · subst hc; exact inM_bit _
    · exact absurd (by show hv (putH b x s.heap) c = _; rw [hv_put, upd_other _ _ _ _ hc]) h
  new x h1 h2 := by simp at h2; omega
theorem PL.made (s : PS) (c : List Value) (e st : Nat) : PL s (s.with c e st) where
  next := by simp [PS.with]
  rd _ h := h
  wr x h := (inM_lor _ _ x).2 (.inl h)
  heap c' h := by
    refine (inM_lor _ _ c').2 (.inr ?_)
    by_cases hc : c' = s.next
    · subst hc; exact inM_bit _
    · exact absurd (by show hv (putH _ _ s.heap) c' = _; rw [hv_put, upd_other _ _ _ _ hc]) h
  new x h1 h2 := by
    refine (inM_lor _ _ x).2 (.inr ?_)
    simp only [PS.with] at h2
    rw [show x = s.next by omega]
    exact inM_bit _
def MaskIn (s : PS) (M : Nat → Prop) : Prop := ∀ b, inM s.rd b ∨ inM s.wr b → M b
theorem MaskIn.back {s s1 : PS} {M : Nat → Prop} (h : MaskIn s1 M) (p : PL s s1) : MaskIn s M := fun b hb => h b (hb.imp (p.rd b) (p.wr b))
def Fresh (ι : Nat → Option Info) (n n' : Nat) : Prop := ∀ b, n ≤ b → b < n' → ι b = none
end Go.Proofs.YtoimffkejoeadaaGreatDoor.Vm
