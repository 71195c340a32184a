/- Memory as the logic sees it: what is read, what has grown, slices. -/
import Derived.Test.YtoimffkejoeadaaGreatDoorG0
namespace Go.Proofs.YtoimffkejoeadaaGreatDoor.Vm
open Go
set_option linter.unusedVariables false
set_option linter.unusedSimpArgs false

/-! ### Addresses, cells -/
@[simp] theorem padd_here (b o n : Nat) : padd (here b o) n = here b (o + n) := rfl
theorem padd_padd (a : Addr) (n m : Nat) : padd (padd a n) m = padd a (n + m) := by
  obtain ⟨b, o, sp⟩ := a
  cases sp with
  | none => rw [padd_ext, padd_ext, padd_ext, Nat.add_assoc]
  | some sp => simp [padd_own, Nat.add_assoc]
/-- An address of old: it lies outside, or in a block below so many. -/
def Old (N : Nat) (a : Addr) : Prop := a.spot = none ∨ (a.spot = some 0 ∧ a.block < N)
theorem Old.padd {N : Nat} {a : Addr} (h : Old N a) (n : Nat) : Old N (Vm.padd a n) := by
  obtain ⟨b, o, sp⟩ := a
  rcases h with h | ⟨h, h'⟩
  · simp only at h; subst h; rw [padd_ext]; exact .inl rfl
  · simp only at h h'; subst h; exact .inr ⟨rfl, h'⟩
theorem Old.here {N b o : Nat} (h : b < N) : Old N (Vm.here b o) := .inr ⟨rfl, h⟩
theorem Old.mono {N M : Nat} {a : Addr} (h : Old N a) (hm : N ≤ M) : Old M a := by
  rcases h with h | ⟨h, h'⟩
  · exact .inl h
  · exact .inr ⟨h, Nat.lt_of_lt_of_le h' hm⟩
def Agree (N : Nat) (h h' : Nat → Option PB) : Prop := ∀ b, b < N → h' b = h b
section
variable {E : Addr → Option Value} {h h' : Nat → Option PB}
theorem rd_here (b o : Nat) : rd E h (here b o) = (match h b with | some pb => pb.cells[o]? | none => none) := rfl
@[simp] theorem rd_same (b o : Nat) (pb : PB) : rd E (upd h b (some pb)) (here b o) = pb.cells[o]? := by rw [rd_here, upd_same]
theorem rd_other {b c : Nat} (o : Nat) (x : Option PB) (hc : c ≠ b) : rd E (upd h b x) (here c o) = rd E h (here c o) := by rw [rd_here, rd_here, upd_other _ _ _ _ hc]
theorem rd_agree {N : Nat} {a : Addr} (ha : Agree N h h') (ho : Old N a) : rd E h' a = rd E h a := by
  obtain ⟨b, o, sp⟩ := a
  rcases ho with ho | ⟨ho, hb⟩
  · simp only at ho; subst ho; rfl
  · simp only at ho hb; subst ho
    show (match h' b with | some pb => pb.cells[o]? | none => none) = (match h b with | some pb => pb.cells[o]? | none => none)
    rw [ha b hb]
theorem rd_at {b o : Nat} {pb : PB} (hb : h b = some pb) : rd E h (here b o) = pb.cells[o]? := by rw [rd_here, hb]
theorem Agree.refl (N : Nat) (h : Nat → Option PB) : Agree N h h := fun _ _ => rfl
theorem Agree.trans {N : Nat} {a b c : Nat → Option PB} (h : Agree N a b) (k : Agree N b c) : Agree N a c := fun x hx => (k x hx).trans (h x hx)
theorem Agree.mono {N M : Nat} {a b : Nat → Option PB} (h : Agree M a b) (hm : N ≤ M) : Agree N a b := fun x hx => h x (Nat.lt_of_lt_of_le hx hm)
theorem Agree.upd {N b : Nat} {x : Option PB} {a c : Nat → Option PB} (h : Agree N a c) (hb : N ≤ b) : Agree N a (Vm.upd c b x) := fun y hy => by rw [upd_other _ _ _ _ (by omega)]; exact h y hy
end

/-- What is left as it was: old blocks; none of them is written. -/
structure Grew (s s' : WS) : Prop where
  n : s.n ≤ s'.n
  h : Agree s.n s.h s'.h
  w : ∀ b, b < s.n → s'.w b → s.w b
theorem Grew.refl (s : WS) : Grew s s := ⟨Nat.le_refl _, Agree.refl _ _, fun _ _ h => h⟩
theorem Grew.trans {a b c : WS} (h : Grew a b) (k : Grew b c) : Grew a c := ⟨Nat.le_trans h.n k.n, h.h.trans (k.h.mono h.n), fun x hx hw => h.w x hx (k.w x (Nat.lt_of_lt_of_le hx h.n) hw)⟩
theorem Grew.upd {s s1 : WS} (h : Grew s s1) {b m : Nat} {x : Option PB} (hb : s.n ≤ b) (hm : s.n ≤ m) : Grew s ⟨Vm.upd s1.h b x, m, addW s1.w b⟩ :=
  ⟨hm, h.h.upd hb, fun y hy hw => by
    rcases hw with hw | hw
    · exact h.w y hy hw
    · omega⟩
theorem Grew.new (s : WS) (x : Option PB) : Grew s ⟨Vm.upd s.h s.n x, s.n + 1, addW s.w s.n⟩ := (Grew.refl s).upd (Nat.le_refl _) (Nat.le_succ _)
/-- In a region that draws its order: a step, and what came before. -/
theorem Grew.z (s : WS) {t : WS} (h : Grew s.z t) : Grew s (s.j t) := ⟨h.n, h.h, fun b hb hw => by
  rcases hw with hw | hw
  · exact hw
  · exact (h.w b hb hw).elim⟩
theorem Grew.zw {s t : WS} (h : Grew s.z t) {b : Nat} (hb : t.w b) : s.n ≤ b := Nat.le_of_not_lt fun hlt => (h.w b hlt hb).elim

/-- A new block. -/
theorem wnew_of {s : WS} {c : List Value} {e st : Nat} {K : Addr → WS → Prop} (h : ∀ s', s'.n = s.n + 1 → s'.h = upd s.h s.n (some ⟨c, e, st⟩) → Grew s s' → K (here s.n 0) s') : wnew s c e st K := h _ rfl rfl (Grew.new s _)
/-- A store. -/
theorem wstore_of {s : WS} {b o : Nat} {pb : PB} {c : List Value} {K : WS → Prop} (hb : s.h b = some pb) (ho : o + c.length ≤ pb.cells.length) (h1 : ∀ v ∈ c, one v = true)
    (h : ∀ s', s'.n = s.n → s'.h = upd s.h b (some ⟨ov pb.cells o c, pb.elem, pb.stride⟩) → s'.w = addW s.w b → K s') : wstore s (here b o) c K := ⟨b, o, pb, rfl, hb, ho, h1, h _ rfl rfl rfl⟩
theorem Grew.stored {s s1 s2 : WS} (h : Grew s s1) {b : Nat} {x : Option PB} (hb : s.n ≤ b) (h1 : s2.n = s1.n) (h2 : s2.h = Vm.upd s1.h b x) (h3 : s2.w = addW s1.w b) : Grew s s2 :=
  ⟨by rw [h1]; exact h.n, by rw [h2]; exact h.h.upd hb, fun y hy hw => by
    rw [h3] at hw
    rcases hw with hw | hw
    · exact h.w y hy hw
    · omega⟩

theorem bif_of {b : Bool} {A B : Prop} (h1 : b = true → A) (h2 : b = false → B) : (bif b then A else B) := by cases b <;> simp_all

/-! ### Slices -/
/-- A slice of elements of z cells each. -/
structure Slc (E : Addr → Option Value) (h : Nat → Option PB) (N : Nat) {α : Type} (z : Nat) (enc : α → List Value) (a : Option Addr) (n c : Nat) (xs : List α) : Prop where
  len : n = xs.length
  cap : n ≤ c
  old : ∀ ad, a = some ad → Old N ad
  some' : xs ≠ [] → ∃ ad, a = some ad
  cell : ∀ ad, a = some ad → ∀ i x, xs[i]? = some x → ∀ j u, (enc x)[j]? = some u → rd E h (padd ad (i * z + j)) = some u
section
variable {E : Addr → Option Value} {h h' : Nat → Option PB} {N M : Nat} {α : Type} {z : Nat} {enc : α → List Value} {a : Option Addr} {n c : Nat} {xs : List α}
theorem Slc.agree (H : Slc E h N z enc a n c xs) (ha : Agree N h h') : Slc E h' N z enc a n c xs :=
  ⟨H.len, H.cap, H.old, H.some', fun ad had i x hx j u hu => by rw [rd_agree ha ((H.old ad had).padd _)]; exact H.cell ad had i x hx j u hu⟩
theorem Slc.mono (H : Slc E h N z enc a n c xs) (hm : N ≤ M) : Slc E h M z enc a n c xs := ⟨H.len, H.cap, fun ad had => (H.old ad had).mono hm, H.some', H.cell⟩
theorem Slc.nil : Slc E h N z enc none 0 0 ([] : List α) := ⟨rfl, Nat.le_refl _, fun _ h => (by cases h), fun h => absurd rfl h, fun _ h => (by cases h)⟩
/-- An element's cell, read by an index. -/
theorem Slc.at (H : Slc E h N z enc a n c xs) {i : Nat} {x : α} (hx : xs[i]? = some x) {j : Nat} {u : Value} (hu : (enc x)[j]? = some u) : ∃ ad, a = some ad ∧ rd E h (padd ad (i * z + j)) = some u := by
  obtain ⟨ad, had⟩ := H.some' (by intro e; subst e; simp at hx)
  exact ⟨ad, had, H.cell ad had i x hx j u hu⟩
end
abbrev i64s (n : Int) : List Value := [.int .i64 n]
abbrev u8s (n : Int) : List Value := [.int .u8 n]
abbrev slv (v : Option Addr × Nat × Nat) : List Value := [.slice v.1 v.2.1 v.2.2]
theorem w64 {n : Int} (h1 : -9223372036854775808 ≤ n) (h2 : n < 9223372036854775808) : IntKind.wrap .i64 n = n := wrap_small n h1 h2
theorem wu64 {n : Int} (h1 : 0 ≤ n) (h2 : n < 18446744073709551616) : IntKind.wrap .u64 n = n := by simp [IntKind.wrap, IntKind.bits, IntKind.signed]; omega

/-! ### What is read has one shape -/
section
variable {kd : IntKind} {m : Int} {b : Bool} {a : Option Addr} {n c : Nat}
theorem ex_int {K : Int → Prop} : (∃ y, some (Value.int kd m) = some (Value.int kd y) ∧ K y) = K m := by simp
theorem ex_bool {K : Bool → Prop} : (∃ y, some (Value.bool b) = some (Value.bool y) ∧ K y) = K b := by simp
theorem ex_slc {K : Option Addr → Nat → Nat → Prop} : (∃ x y z, some (Value.slice a n c) = some (Value.slice x y z) ∧ K x y z) = K a n c :=
  propext ⟨fun ⟨x, y, z, h, k⟩ => by injection h with h; injection h with h1 h2 h3; subst h1; subst h2; subst h3; exact k, fun k => ⟨_, _, _, rfl, k⟩⟩
theorem ex_ptr {p : Option Addr} {K : Option Addr → Prop} : (∃ y, some (Value.pointer p) = some (Value.pointer y) ∧ K y) = K p := by simp
theorem ex_int' {K : Int → Prop} : (∃ y, Value.int kd m = Value.int kd y ∧ K y) = K m := by simp
theorem ex_bool' {K : Bool → Prop} : (∃ y, Value.bool b = Value.bool y ∧ K y) = K b := by simp
theorem ex_slc' {K : Option Addr → Nat → Nat → Prop} : (∃ x y z, Value.slice a n c = Value.slice x y z ∧ K x y z) = K a n c :=
  propext ⟨fun ⟨x, y, z, h, k⟩ => by injection h with h1 h2 h3; subst h1; subst h2; subst h3; exact k, fun k => ⟨_, _, _, rfl, k⟩⟩
theorem ex_addr {x : Addr} {K : Addr → Prop} : (∃ y, some x = some y ∧ K y) = K x := by simp
end
theorem z_h (s : WS) : s.z.h = s.h := rfl
theorem z_n (s : WS) : s.z.n = s.n := rfl
theorem j_h (s t : WS) : (s.j t).h = t.h := rfl
theorem j_n (s t : WS) : (s.j t).n = t.n := rfl
theorem apart_addr {s t : WS} {a : Addr} {i : Nat} (h : Grew s.z t) (ha : Old s.n a) : wapart .all t.w ⟨i, .addr a, fun _ => False⟩ :=
  ⟨fun b hb hh => by
    rcases hh with hh | hh
    · obtain ⟨h1, h2⟩ := hh
      rcases ha with e | ⟨_, e⟩
      · exact h1 e
      · have := h.zw hb; omega
    · exact hh, fun b hb => hb.elim⟩
theorem apart_addr' {s t : WS} {a : Addr} {i : Nat} (h : Grew s.z t) (ha : Old s.n a) : wapart (.addr a) (fun _ => False) ⟨i, .all, t.w⟩ :=
  ⟨fun b hb => hb.elim, fun b hb hh => by
    rcases hh with hh | hh
    · obtain ⟨h1, h2⟩ := hh
      rcases ha with e | ⟨_, e⟩
      · exact h1 e
      · have := h.zw hb; omega
    · exact hh⟩
end Go.Proofs.YtoimffkejoeadaaGreatDoor.Vm
/- Slices of the call's own that grow. -/
namespace Go.Proofs.YtoimffkejoeadaaGreatDoor.Vm
open Go
set_option linter.unusedVariables false
set_option linter.unusedSimpArgs false

/-- A slice that the call itself has made, by appending alone: nil, or a block (from N on) that it fills. -/
inductive Own (h : Nat → Option PB) (N e z : Nat) : Option Addr → Nat → Nat → List Value → Prop
  | nil : Own h N e z none 0 0 []
  | blk {b n : Nat} {cells : List Value} (hb : h b = some ⟨cells, e, z⟩) (hN : N ≤ b) (hl : cells.length = n * z) : Own h N e z (some (here b 0)) n n cells
theorem Own.agree {h h' : Nat → Option PB} {N e z : Nat} {a : Option Addr} {n c : Nat} {cells : List Value} (H : Own h N e z a n c cells) (ha : ∀ b, a = some (here b 0) → h' b = h b) : Own h' N e z a n c cells := by
  cases H with
  | nil => exact .nil
  | blk hb hN hl => exact .blk ((ha _ rfl).trans hb) hN hl
theorem Own.len {h : Nat → Option PB} {N e z : Nat} {a : Option Addr} {n c : Nat} {cells : List Value} (H : Own h N e z a n c cells) : cells.length = n * z := by
  cases H with
  | nil => simp
  | blk hb hN hl => exact hl

section
variable {E : Addr → Option Value}
/-- append(x, v): the new element lies in a block of its own first. -/
theorem app1 {s : WS} {N e z by' : Nat} {a : Option Addr} {n c : Nat} {cells new : List Value} {K : Option Addr → Nat → Nat → WS → Prop} {e' : Nat}
    (ho : Own s.h N e z a n c cells) (hlt : ∀ b, a = some (here b 0) → b < s.n) (hN : N ≤ s.n) (hz : new.length = z) (hz0 : z ≠ 0) (h1 : ∀ v ∈ new, one v = true) (hb : (2 * (n + 1) + 1000) * by' ≤ 281474976710656)
    (hK : ∀ s', Own s'.h N e z (some (here (s.n + 1) 0)) (n + 1) (n + 1) (cells ++ new) → s'.n = s.n + 2 → (∀ s0, s0.n ≤ N → Grew s0 s → Grew s0 s') → (∀ x, x < s.n → (∀ b, a = some (here b 0) → x ≠ b) → s'.h x = s.h x) → K (some (here (s.n + 1) 0)) (n + 1) (n + 1) s') :
    wnew s new e' z fun a1 s2 => wgrow E s2 e z by' a n c (.slice (some a1) 1 1) 1 K := by
  refine wnew_of fun s2 g1 g2 g3 => ?_
  have hsrc : srcIs E s2.h (.slice (some (here s.n 0)) 1 1) (1 * z) new := ⟨by omega, fun i u hu => by rw [padd_here, rd_here, g2, upd_same, Nat.zero_add]; exact hu, .inr ⟨_, by rw [g2]; exact upd_same _ _ _⟩⟩
  refine ⟨new, hsrc, by omega, h1, hb, ?_⟩
  cases ho with
  | nil =>
    refine ⟨rfl, rfl, fun h => absurd h (by omega), fun _ => ?_⟩
    refine wnew_of fun s' k1 k2 k3 => ?_
    have e1 : s2.n = s.n + 1 := g1
    rw [e1] at k1 k2 ⊢
    refine hK s' ?_ (by omega) (fun s0 h0 hg => ?_) fun x hx _ => ?_
    · rw [List.nil_append]
      exact .blk (by rw [k2]; exact upd_same _ _ _) (by omega) (by omega)
    · exact (hg.trans (g3.trans k3))
    · rw [k2, upd_other _ _ _ _ (by omega), g2, upd_other _ _ _ _ (by omega)]
  | @blk b n cells hb' hN' hl =>
    have hbn : b < s.n := hlt b rfl
    have hb2 : s2.h b = some ⟨cells, e, z⟩ := by rw [g2, upd_other _ _ _ _ (by omega)]; exact hb'
    refine ⟨b, 0, _, rfl, hb2, rfl, rfl, fun h => by omega, fun _ => ⟨by rw [Nat.zero_add]; exact Nat.le_of_eq hl.symm, fun h' q1 q2 => ?_⟩⟩
    have e1 : s2.n = s.n + 1 := g1
    have hcells : (List.take (n * z) (List.drop 0 cells)) = cells := by rw [List.drop_zero, List.take_of_length_le (by omega)]
    simp only [hcells]
    refine wnew_of fun s' k1 k2 k3 => ?_
    simp only [e1] at k1 k2 ⊢
    refine hK s' ?_ k1 (fun s0 h0 hg => ?_) fun x hx hne => ?_
    · exact .blk (by rw [k2]; exact upd_same _ _ _) (by omega) (by rw [List.length_append, hl, hz, Nat.add_mul]; omega)
    · have hg2 := hg.trans g3
      refine ⟨by omega, fun x hx => ?_, fun x hx hw => ?_⟩
      · rw [k2, upd_other _ _ _ _ (by have := hg.n; omega), q1 x (by omega)]
        exact hg2.h x hx
      · have := k3.w x (by show x < s2.n; have := hg.n; omega) hw
        rcases this with hw | hw
        · exact hg2.w x hx hw
        · omega
    · rw [k2, upd_other _ _ _ _ (by omega), q1 x (hne b rfl), g2, upd_other _ _ _ _ (by omega)]

/-- What was appended is a slice that can be read. -/
theorem Own.slc {h : Nat → Option PB} {N M e z : Nat} {a : Option Addr} {n c : Nat} {α : Type} {enc : α → List Value} {xs : List α} (H : Own h N e z a n c (xs.flatMap enc)) (hz : ∀ x ∈ xs, (enc x).length = z) (hz0 : z ≠ 0) (hlt : ∀ b, a = some (here b 0) → b < M) : Slc E h M z enc a n c xs := by
  have flat : ∀ (xs : List α), (∀ x ∈ xs, (enc x).length = z) → (xs.flatMap enc).length = xs.length * z ∧ ∀ i x, xs[i]? = some x → ∀ j u, (enc x)[j]? = some u → (xs.flatMap enc)[i * z + j]? = some u := fun xs => by
    induction xs with
    | nil => exact fun _ => ⟨by simp, fun i x hx => by simp at hx⟩
    | cons y ys ih =>
      intro hz
      obtain ⟨h1, h2⟩ := ih fun x hx => hz x (by simp [hx])
      have hy := hz y (by simp)
      refine ⟨by simp only [List.flatMap_cons, List.length_append, List.length_cons, h1, hy, Nat.add_mul]; omega, fun i x hx j u hu => ?_⟩
      rw [List.flatMap_cons]
      cases i with
      | zero =>
        simp at hx
        subst hx
        have hj : j < (enc y).length := (List.getElem?_eq_some_iff.1 hu).1
        rw [List.getElem?_append_left (by omega)]
        simpa using hu
      | succ i =>
        rw [List.getElem?_append_right (by rw [hy, Nat.add_mul]; omega), hy, show (i + 1) * z + j - z = i * z + j by rw [Nat.add_mul]; omega]
        exact h2 i x (by simpa using hx) j u hu
  obtain ⟨h1, h2⟩ := flat xs hz
  have hn : n = xs.length := by
    have := H.len
    rw [h1] at this
    exact (Nat.eq_of_mul_eq_mul_right (by omega) this).symm
  cases hcs : xs.flatMap enc with
  | nil =>
    have h0 : xs.length = 0 := by
      rw [hcs] at h1
      simp only [List.length_nil] at h1
      rcases Nat.mul_eq_zero.1 h1.symm with e | e
      · exact e
      · exact absurd e hz0
    have := List.length_eq_zero_iff.1 h0
    subst this
    cases H with
    | nil => exact Slc.nil
    | blk hb hN hl =>
      refine ⟨hn, Nat.le_refl _, fun ad had => ?_, fun h => absurd rfl h, fun ad had i x hx => by simp at hx⟩
      injection had with had
      subst had
      exact Old.here (hlt _ rfl)
  | cons v vs =>
    generalize hcells : xs.flatMap enc = cells at H
    cases H with
    | nil => rw [hcells] at hcs; cases hcs
    | blk hb hN hl =>
      refine ⟨hn, Nat.le_refl _, fun ad had => ?_, fun h => ⟨_, rfl⟩, fun ad had i x hx j u hu => ?_⟩
      · injection had with had
        subst had
        exact Old.here (hlt _ rfl)
      · injection had with had
        subst had
        rw [padd_here, rd_at hb, Nat.zero_add]
        have := h2 i x hx j u hu
        rw [hcells] at this
        exact this
end
end Go.Proofs.YtoimffkejoeadaaGreatDoor.Vm
