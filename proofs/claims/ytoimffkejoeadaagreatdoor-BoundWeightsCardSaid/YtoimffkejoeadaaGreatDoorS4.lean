/- What 'square' (chapter 11's law) makes: rows of numbers. -/
import Derived.Test.YtoimffkejoeadaaGreatDoorL2
import Derived.Test.YtoimffkejoeadaaGreatDoorS2
namespace Go.Proofs.YtoimffkejoeadaaGreatDoor.Vm
open Go
set_option linter.unusedVariables false
set_option linter.unusedSimpArgs false
/-- The number in row i, column j. -/
def entN (l : List Int) (n i j : Nat) : Int := if i ≠ j ∧ l ≠ [] then (l.getD ((i * (n - 1) + (if j ≤ i then j else j - 1)) % l.length) 0) % 30 else 0
def sqRow (l : List Int) (n i : Nat) : List Int := (List.range n).map (entN l n i)
def sqr (l : List Int) (n : Nat) : List (List Int) := (List.range n).map (sqRow l n)
def rowAt (l : List Int) (n i j : Nat) : List Value := (List.range n).map fun t => .int .i64 (if t < j then entN l n i t else 0)
/-- How many numbers were used, ahead of row i, column j. -/
def kAt (l : List Int) (n i j : Nat) : Nat := if l = [] then 0 else i * (n - 1) + (if j ≤ i then j else j - 1)
/-- Rows of numbers, read. -/
def Mat (E : Addr → Option Value) (h : Nat → Option PB) (N : Nat) (a : Option Addr) (n c : Nat) (L : List (List Int)) : Prop :=
  ∃ vs : List (Option Addr × Nat × Nat), Slc E h N 1 slv a n c vs ∧ vs.length = L.length ∧ ∀ (i : Nat) (v : Option Addr × Nat × Nat) (r : List Int), vs[i]? = some v → L[i]? = some r → Slc E h N 1 i64s v.1 v.2.1 v.2.2 r
theorem Mat.agree {E : Addr → Option Value} {h h' : Nat → Option PB} {N : Nat} {a : Option Addr} {n c : Nat} {L : List (List Int)} (H : Mat E h N a n c L) (ha : Agree N h h') : Mat E h' N a n c L := by
  obtain ⟨vs, h1, h2, h3⟩ := H
  exact ⟨vs, h1.agree ha, h2, fun i v r hv hr => (h3 i v r hv hr).agree ha⟩
theorem Mat.mono {E : Addr → Option Value} {h : Nat → Option PB} {N M : Nat} {a : Option Addr} {n c : Nat} {L : List (List Int)} (H : Mat E h N a n c L) (hm : N ≤ M) : Mat E h M a n c L := by
  obtain ⟨vs, h1, h2, h3⟩ := H
  exact ⟨vs, h1.mono hm, h2, fun i v r hv hr => (h3 i v r hv hr).mono hm⟩
theorem rowOf_one (z : Value) (n : Nat) : rowOf ⟨[z]⟩ n = List.replicate n z := by
  unfold rowOf
  apply List.ext_getElem
  · simp
  · intro i h1 h2
    simp [Nat.mod_one]
theorem rowAt_zero (l : List Int) (n i : Nat) : rowAt l n i 0 = List.replicate n (.int .i64 0) := by
  apply List.ext_getElem
  · simp [rowAt]
  · intro i h1 h2; simp [rowAt]
theorem rowAt_len (l : List Int) (n i j : Nat) : (rowAt l n i j).length = n := by simp [rowAt]
theorem rowAt_full (l : List Int) (n i : Nat) : rowAt l n i n = (sqRow l n i).flatMap i64s := by
  have flat : ∀ xs : List Int, xs.flatMap i64s = xs.map (Value.int .i64) := fun xs => by
    induction xs with
    | nil => rfl
    | cons x xs ih => rw [List.flatMap_cons, ih]; rfl
  rw [flat]
  apply List.ext_getElem
  · simp [rowAt, sqRow]
  · intro t h1 h2
    have ht : t < n := by simpa [rowAt] using h1
    simp [rowAt, sqRow, ht]
theorem rowAt_step (l : List Int) (n i j : Nat) (hj : j < n) : ov (rowAt l n i j) j [.int .i64 (entN l n i j)] = rowAt l n i (j + 1) := by
  unfold ov
  apply List.ext_getElem
  · simp [rowAt]; omega
  · intro t h1 h2
    have ht : t < n := by simpa [rowAt] using h2
    by_cases h : t < j
    · rw [List.getElem_append_left (by simp [rowAt]; omega), List.getElem_append_left (by simp [rowAt]; omega)]
      simp [rowAt, h, show t < j + 1 by omega]
    · by_cases h' : t = j
      · subst h'
        rw [List.getElem_append_left (by simp [rowAt]; omega), List.getElem_append_right (by simp [rowAt]; omega)]
        simp [rowAt]
      · rw [List.getElem_append_right (by simp [rowAt]; omega)]
        rw [List.getElem_drop]
        simp only [rowAt, List.getElem_map, List.getElem_range, List.length_append, List.length_take, List.length_map, List.length_range, List.length_singleton]
        rw [if_neg (by omega), if_neg (by omega)]
theorem rowAt_same (l : List Int) (n i j : Nat) (h : entN l n i j = 0) : rowAt l n i (j + 1) = rowAt l n i j := by
  unfold rowAt
  apply List.map_congr_left
  intro t ht
  by_cases h' : t = j
  · subst h'; simp [h]
  · by_cases h2 : t < j
    · simp [h2, show t < j + 1 by omega]
    · simp [h2, show ¬ t < j + 1 by omega]
theorem kAt_step (l : List Int) (n i j : Nat) (hne : i ≠ j) (hl : l ≠ []) : kAt l n i (j + 1) = kAt l n i j + 1 := by
  unfold kAt
  rw [if_neg hl, if_neg hl]
  by_cases h : j + 1 ≤ i
  · rw [if_pos h, if_pos (by omega)]; omega
  · rw [if_neg h]
    by_cases h' : j ≤ i
    · omega
    · rw [if_neg h']; omega
theorem kAt_same (l : List Int) (n i : Nat) : kAt l n i (i + 1) = kAt l n i i := by
  unfold kAt
  split
  · rfl
  · simp
theorem kAt_row (l : List Int) (n i : Nat) (hi : i < n) : kAt l n i n = kAt l n (i + 1) 0 := by
  unfold kAt
  split
  · rfl
  · rw [if_neg (by omega), if_pos (by omega), Nat.add_mul]; omega

section
variable {E : Addr → Option Value} {s0 : WS} {Q : KV} {la : Option Addr} {ln lc : Nat} {l : List Int} {n : Nat}
theorem sq_inner (hl : Slc E s0.h s0.n 1 u8s la ln lc l) (hu : ∀ x ∈ l, 0 ≤ x ∧ x < 256) (hn : n ≤ 1000) {i b : Nat} (hi : i < n) (hb : s0.n ≤ b) {oa : Option Addr} {on oc : Nat} : ∀ (d j : Nat), n - j = d → j ≤ n → ∀ s : WS, s.h b = some ⟨rowAt l n i j, 2, 1⟩ → Grew s0 s →
    (∀ s', s'.h b = some ⟨rowAt l n i n, 2, 1⟩ → (∀ x, x ≠ b → s'.h x = s.h x) → s'.n = s.n → Grew s0 s' → law11_square.b5 E la ln lc n oa on oc (kAt l n i n) (some (here b 0)) n n n i s' Q) →
    law11_square.l3 E la ln lc n oa on oc (kAt l n i j) i (some (here b 0)) n n n i n j s Q := by
  intro d
  induction d with
  | zero =>
    intro j hd hj s hs hg h
    have hjn : j = n := by omega
    subst hjn
    refine law11_square.l3_of E _ _ _ _ _ _ _ _ _ _ _ _ _ _ _ _ s Q ?_
    refine bif_of (fun e => absurd e (by simp)) fun _ => ?_
    exact h s hs (fun _ _ => rfl) rfl hg
  | succ d ih =>
    intro j hd hj s hs hg h
    have hlt : j < n := by omega
    have hlen := hl.len
    have next : ∀ (k : Nat) (s' : WS), k = kAt l n i (j + 1) → s'.h b = some ⟨rowAt l n i (j + 1), 2, 1⟩ → (∀ x, x ≠ b → s'.h x = s.h x) → s'.n = s.n → Grew s0 s' → law11_square.b8 E la ln lc n oa on oc k i (some (here b 0)) n n n i n j s' Q := fun k s' hk h1 h2 h3 h4 => by
      subst hk
      refine law11_square.b8_of E _ _ _ _ _ _ _ _ _ _ _ _ _ _ _ _ s' Q ?_
      show law11_square.l3 E la ln lc n oa on oc _ i (some (here b 0)) n n n i n (IntKind.wrap .i64 ((j : Int) + 1)) s' Q
      rw [w64 (by omega) (by omega)]
      exact ih (j + 1) (by omega) (by omega) s' h1 h4 fun s'' k1 k2 k3 k4 => h s'' k1 (fun x hx => (k2 x hx).trans (h2 x hx)) (k3.trans h3) k4
    refine law11_square.l3_of E _ _ _ _ _ _ _ _ _ _ _ _ _ _ _ _ s Q ?_
    refine bif_of (fun _ => ?_) fun e => absurd e (by simp; omega)
    refine law11_square.b4_of E _ _ _ _ _ _ _ _ _ _ _ _ _ _ _ _ s Q ?_
    refine bif_of (fun e => ?_) fun e => ?_
    · have hne : i ≠ j := fun h => by subst h; simp at e
      refine law11_square.b6_of E _ _ _ _ _ _ _ _ _ _ _ _ _ _ _ _ _ _ s Q ?_
      refine bif_of (fun e2 => ?_) fun e2 => ?_
      · have hpos : 0 < ln := by have := of_decide_eq_true e2; omega
        have hlne : l ≠ [] := fun h => by subst h; simp at hlen; omega
        have hk : kAt l n i j = i * (n - 1) + (if j ≤ i then j else j - 1) := by unfold kAt; rw [if_neg hlne]
        have hmod : Int.tmod ((kAt l n i j : Nat) : Int) ((ln : Nat) : Int) = ((kAt l n i j % ln : Nat) : Int) := by
          rw [Int.tmod_eq_emod_of_nonneg (by omega)]; rfl
        have hmlt := Nat.mod_lt (kAt l n i j) hpos
        obtain ⟨x, hx⟩ : ∃ x, l[kAt l n i j % ln]? = some x := ⟨_, List.getElem?_eq_getElem (by omega)⟩
        have hxm := hu x (List.mem_of_getElem? hx)
        obtain ⟨ad, had, hrd⟩ := hl.at hx (j := 0) (u := .int .u8 x) rfl
        have hold := hl.old ad had
        have hent : entN l n i j = x % 30 := by
          unfold entN
          rw [if_pos ⟨hne, hlne⟩, ← hk, ← hlen]
          simp [List.getD, hx]
        have hkb : kAt l n i j ≤ 1000000 := by
          rw [hk]
          have : i * (n - 1) ≤ 999 * 999 := Nat.mul_le_mul (by omega) (by omega)
          split <;> omega
        simp only [law11_square.SB6] at *
        rw [hmod]
        refine ⟨by omega, by omega, by omega, ad, had, x, ?_, by omega, by omega, by omega, _, rfl, ?_⟩
        · rw [rd_agree hg.h (hold.padd _)]
          rw [Nat.mul_one, Nat.add_zero] at hrd
          rw [Int.toNat_natCast, Nat.mul_one]
          exact hrd
        · have hcell : IntKind.wrap .i64 (Int.tmod x 30) = entN l n i j := by
            rw [hent, Int.tmod_eq_emod_of_nonneg hxm.1, w64 (by omega) (by omega)]
          rw [hcell, Int.toNat_natCast, Nat.mul_one, padd_here, Nat.zero_add]
          refine wstore_of hs (by rw [rowAt_len]; simp; omega) (by simp [one]) fun s' q1 q2 q3 => ?_
          rw [w64 (by omega) (by omega)]
          refine next (kAt l n i j + 1) s' (kAt_step l n i j hne hlne).symm ?_ (fun x hx => ?_) q1 (hg.stored hb q1 q2 q3)
          · rw [q2, upd_same]
            show some (⟨ov (rowAt l n i j) j [_], _, _⟩ : PB) = _
            rw [rowAt_step l n i j hlt]
          · rw [q2, upd_other _ _ _ _ hx]
      · have hz : ln = 0 := by have := of_decide_eq_false e2; omega
        have hle : l = [] := List.length_eq_zero_iff.1 (by omega)
        refine next _ s ?_ ?_ (fun _ _ => rfl) rfl hg
        · unfold kAt; rw [if_pos hle, if_pos hle]
        · rw [rowAt_same l n i j (by unfold entN; rw [if_neg (fun h => h.2 hle)])]; exact hs
    · have heq : i = j := by have h : (i : Int) = j := by simpa using e
                             omega
      refine law11_square.b6_of E _ _ _ _ _ _ _ _ _ _ _ _ _ _ _ _ _ _ s Q ?_
      refine next _ s ?_ ?_ (fun _ _ => rfl) rfl hg
      · subst heq; exact (kAt_same l n i).symm
      · rw [rowAt_same l n i j (by unfold entN; rw [if_neg (fun h => h.1 heq)])]; exact hs
end
end Go.Proofs.YtoimffkejoeadaaGreatDoor.Vm
/- What 'square' (chapter 11's law) makes: all of it. -/
namespace Go.Proofs.YtoimffkejoeadaaGreatDoor.Vm
open Go
set_option linter.unusedVariables false
set_option linter.unusedSimpArgs false
theorem flat_slv : ∀ xs : List (Option Addr × Nat × Nat), (xs.flatMap slv).length = xs.length
  | [] => rfl
  | x :: xs => by rw [List.flatMap_cons, List.length_append, flat_slv xs]; simp; omega
theorem flat_i64 : ∀ xs : List Int, (xs.flatMap i64s).length = xs.length
  | [] => rfl
  | x :: xs => by rw [List.flatMap_cons, List.length_append, flat_i64 xs]; simp; omega
/-- Rows that were made, apart from the slice that holds them. -/
def RowsAt (l : List Int) (n : Nat) (N : Nat) (h : Nat → Option PB) (M : Nat) (oa : Option Addr) (vs : List (Option Addr × Nat × Nat)) : Prop :=
  ∀ (r : Nat) (v : Option Addr × Nat × Nat), vs[r]? = some v → ∃ br, v = (some (here br 0), n, n) ∧ N ≤ br ∧ br < M ∧ (∀ b, oa = some (here b 0) → br ≠ b) ∧ h br = some ⟨(sqRow l n r).flatMap i64s, 2, 1⟩
theorem Own.ge {h : Nat → Option PB} {N e z : Nat} {a : Option Addr} {n c : Nat} {cells : List Value} (H : Own h N e z a n c cells) : ∀ b, a = some (here b 0) → N ≤ b := by
  cases H with
  | nil => exact fun b hb => by cases hb
  | blk h1 h2 _ => exact fun b hb => by injection hb with hb; injection hb with hb; omega
/-- Rows of numbers in blocks from N on alone. -/
def MatN (E : Addr → Option Value) (N : Nat) (s : WS) (a : Option Addr) (n c : Nat) (L : List (List Int)) : Prop :=
  ∀ h' : Nat → Option PB, (∀ b, N ≤ b → b < s.n → h' b = s.h b) → Mat E h' s.n a n c L
section
variable {E : Addr → Option Value} {s0 : WS} {Q : KV} {la : Option Addr} {ln lc : Nat} {l : List Int} {n : Nat}
theorem sq_outer (hl : Slc E s0.h s0.n 1 u8s la ln lc l) (hu : ∀ x ∈ l, 0 ≤ x ∧ x < 256) (hn : n ≤ 1000) (h : ∀ a c s', MatN E s0.n s' a n c (sqr l n) → Grew s0 s' → Q (.slice a n c) s') : ∀ (d i : Nat), n - i = d → i ≤ n → ∀ (vs : List (Option Addr × Nat × Nat)) (oa : Option Addr) (on oc : Nat) (s : WS), vs.length = i →
    Own s.h s0.n 57 1 oa on oc (vs.flatMap slv) → (∀ b, oa = some (here b 0) → b < s.n) → RowsAt l n s0.n s.h s.n oa vs → Grew s0 s → law11_square.l0 E la ln lc n oa on oc (kAt l n i 0) n i s Q := by
  intro d
  induction d with
  | zero =>
    intro i hd hi vs oa on oc s hvs ho hlt hr hg
    have hin : i = n := by omega
    subst hin
    refine law11_square.l0_of E _ _ _ _ _ _ _ _ _ _ s Q ?_
    refine bif_of (fun e => absurd e (by simp)) fun _ => ?_
    refine law11_square.b2_of E _ _ _ s Q ?_
    have hon : on = i := by have := ho.len; rw [flat_slv, hvs] at this; omega
    subst hon
    refine h oa oc s (fun h' hh => ⟨vs, Own.slc (ho.agree fun b hb => hh b (ho.ge b hb) (hlt b hb)) (fun _ _ => rfl) (by omega) hlt, by simp [sqr, hvs], fun r v row hv hrow => ?_⟩) hg
    obtain ⟨br, rfl, h1, h2, h3, h4⟩ := hr r v hv
    have hrn : r < on := by rw [← hvs]; exact (List.getElem?_eq_some_iff.1 hv).1
    have : row = sqRow l on r := by
      simp only [sqr, List.getElem?_map, List.getElem?_range hrn, Option.map_some, Option.some.injEq] at hrow
      exact hrow.symm
    subst this
    exact Own.slc (N := s0.n) (e := 2) (.blk ((hh br h1 h2).trans h4) h1 (by rw [flat_i64]; simp [sqRow])) (fun _ _ => rfl) (by omega) fun b hb => by
      injection hb with hb
      injection hb with hb
      omega
  | succ d ih =>
    intro i hd hi vs oa on oc s hvs ho hlt hr hg
    have hin : i < n := by omega
    have hon : on = i := by have := ho.len; rw [flat_slv, hvs] at this; omega
    refine law11_square.l0_of E _ _ _ _ _ _ _ _ _ _ s Q ?_
    refine bif_of (fun _ => ?_) fun e => absurd e (by simp; omega)
    refine law11_square.b1_of E _ _ _ _ _ _ _ _ _ _ s Q ?_
    refine ⟨by omega, Int.le_refl _, by omega, by omega, ?_⟩
    rw [Int.toNat_natCast, Nat.mul_one, rowOf_one]
    refine wnew_of fun s1 p1 p2 p3 => ?_
    refine sq_inner hl hu hn hin hg.n n 0 (by omega) (by omega) s1 (by rw [p2, upd_same, rowAt_zero]) (hg.trans p3) fun s2 q1 q2 q3 q4 => ?_
    refine law11_square.b5_of E _ _ _ _ _ _ _ _ _ _ _ _ _ s2 Q ?_
    have old2 : ∀ x, x < s.n → s2.h x = s.h x := fun x hx => by rw [q2 x (by omega), p2, upd_other _ _ _ _ (by omega)]
    have ho2 : Own s2.h s0.n 57 1 oa on oc (vs.flatMap slv) := ho.agree fun b hb => old2 b (hlt b hb)
    have hs2n : s2.n = s.n + 1 := q3.trans p1
    refine app1 ho2 (fun b hb => by have := hlt b hb; omega) q4.n rfl (by omega) (by simp [one]) (by omega) fun s3 k1 k2 k3 k4 => ?_
    refine law11_square.b7_of E _ _ _ _ _ _ _ _ _ _ s3 Q ?_
    show law11_square.l0 E la ln lc n _ _ _ (kAt l n i n) n (IntKind.wrap .i64 ((i : Int) + 1)) s3 Q
    rw [w64 (by omega) (by omega), kAt_row l n i hin]
    refine ih (i + 1) (by omega) (by omega) (vs ++ [(some (here s.n 0), n, n)]) _ _ _ s3 (by simp [hvs]) ?_ (fun b hb => ?_) (fun r v hv => ?_) (k3 s0 (Nat.le_refl _) q4)
    · rw [List.flatMap_append]; exact k1
    · injection hb with hb; injection hb with hb; omega
    · rcases Nat.lt_or_ge r vs.length with hr' | hr'
      · rw [List.getElem?_append_left hr'] at hv
        obtain ⟨br, e, h1, h2, h3, h4⟩ := hr r v hv
        refine ⟨br, e, h1, by omega, fun b hb => ?_, ?_⟩
        · injection hb with hb; injection hb with hb; omega
        · rw [k4 br (by omega) h3, old2 br h2]; exact h4
      · rw [List.getElem?_append_right hr'] at hv
        have hr0 : r = vs.length := by
          cases hrr : r - vs.length with
          | zero => omega
          | succ m => rw [hrr] at hv; simp at hv
        subst hr0
        rw [Nat.sub_self] at hv
        simp only [List.getElem?_cons_zero, Option.some.injEq] at hv
        subst hv
        refine ⟨s.n, rfl, hg.n, by omega, fun b hb => ?_, ?_⟩
        · injection hb with hb; injection hb with hb; omega
        · rw [k4 s.n (by omega) (fun b hb => by have := hlt b hb; omega), q1, rowAt_full, hvs]
theorem square_ok {s : WS} (hl : Slc E s.h s.n 1 u8s la ln lc l) (hu : ∀ x ∈ l, 0 ≤ x ∧ x < 256) (hn : n ≤ 1000) (h : ∀ a c s', MatN E s.n s' a n c (sqr l n) → Grew s s' → Q (.slice a n c) s') : call E 29 [.slice la ln lc, .int .i64 (n : Int)] s Q := by
  refine law11_square.of E _ _ _ _ s Q ?_
  have := sq_outer (Q := Q) hl hu hn h n 0 (by omega) (by omega) [] none 0 0 s rfl .nil (fun b hb => by cases hb) (fun r v hv => by simp at hv) (Grew.refl s)
  have hk : kAt l n 0 0 = 0 := by unfold kAt; split <;> simp
  rw [hk] at this
  exact this
end
end Go.Proofs.YtoimffkejoeadaaGreatDoor.Vm
