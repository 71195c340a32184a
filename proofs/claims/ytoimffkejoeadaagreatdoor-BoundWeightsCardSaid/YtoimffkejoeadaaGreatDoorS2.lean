/- What small functions answer. -/
import Derived.Test.YtoimffkejoeadaaGreatDoorL2
import Derived.Test.YtoimffkejoeadaaGreatDoorGa
import Derived.Test.YtoimffkejoeadaaGreatDoorGc
import Derived.Test.YtoimffkejoeadaaGreatDoorGd
namespace Go.Proofs.YtoimffkejoeadaaGreatDoor.Vm
open Go
set_option linter.unusedVariables false
set_option linter.unusedSimpArgs false
set_option maxRecDepth 10000
/-- An instance as a value. -/
structure IV where
  e : Int
  tm : Int
  tr : Int
  bm : Int
  br : Int
  sa : Option Addr
  sn : Nat
  sc : Nat
  ca : Option Addr
  cn : Nat
  cc : Nat
  oa : Option Addr
  on : Nat
  oc : Nat
  ta : Option Addr
  tn : Nat
  tc : Nat
def IV.l (x : IV) : List Value := [.int .i64 x.e, .int .i64 x.tm, .int .i64 x.tr, .int .i64 x.bm, .int .i64 x.br, .slice x.sa x.sn x.sc, .slice x.ca x.cn x.cc, .slice x.oa x.on x.oc, .slice x.ta x.tn x.tc]
def IV.v (x : IV) : Value := .agg ⟨x.l⟩
/-- An instance that lies in a block. -/
def InstIn (h : Nat → Option PB) (b : Nat) (x : IV) : Prop := ∃ e st, h b = some ⟨x.l, e, st⟩
section
variable {E : Addr → Option Value} {h h' : Nat → Option PB} {b : Nat} {x : IV}
theorem InstIn.agree {N : Nat} (H : InstIn h b x) (ha : Agree N h h') (hb : b < N) : InstIn h' b x := by
  obtain ⟨e, st, H⟩ := H
  exact ⟨e, st, (ha b hb).trans H⟩
theorem InstIn.r (H : InstIn h b x) (i : Nat) : rd E h (padd (here b 0) i) = x.l[i]? := by
  obtain ⟨e, st, H⟩ := H
  rw [padd_here, rd_at H, Nat.zero_add]
theorem IV.l0 : x.l[0]? = some (.int .i64 x.e) := rfl
theorem IV.l1 : x.l[1]? = some (.int .i64 x.tm) := rfl
theorem IV.l2 : x.l[2]? = some (.int .i64 x.tr) := rfl
theorem IV.l3 : x.l[3]? = some (.int .i64 x.bm) := rfl
theorem IV.l4 : x.l[4]? = some (.int .i64 x.br) := rfl
theorem IV.l5 : x.l[5]? = some (.slice x.sa x.sn x.sc) := rfl
theorem IV.l6 : x.l[6]? = some (.slice x.ca x.cn x.cc) := rfl
theorem IV.l7 : x.l[7]? = some (.slice x.oa x.on x.oc) := rfl
theorem IV.l8 : x.l[8]? = some (.slice x.ta x.tn x.tc) := rfl
end
section
variable {E : Addr → Option Value} {s : WS} {Q : KV}
theorem inst_new {s : WS} {x : IV} {e st : Nat} {K : Addr → WS → Prop} (h : ∀ s', s'.n = s.n + 1 → Grew s s' → InstIn s'.h s.n x → K (here s.n 0) s') : wnew s x.l e st K :=
  wnew_of fun s' h1 h2 h3 => h s' h1 h3 ⟨e, st, by rw [h2, upd_same]⟩
theorem Nodes_ok (x : IV) (hs : x.sn ≤ 1000000000) (hc : x.cn ≤ 1000000000) (h : ∀ s', Grew s s' → Q (.int .i64 (1 + x.sn + x.cn)) s') : call E 30 [x.v] s Q := by
  refine law11_Nodes.of E _ _ _ _ _ _ _ _ _ _ _ _ _ _ _ _ _ s Q ?_
  refine inst_new (x := x) fun s1 h1 h2 h3 => ?_
  simp only [h3.r, IV.l5, IV.l6, ex_slc]
  rw [w64 (n := (1 : Int) + (x.sn : Nat)) (by omega) (by omega), w64 (by omega) (by omega)]
  exact h s1 h2
theorem iNodes_ok (x : IV) (hs : x.sn ≤ 1000000000) (hc : x.cn ≤ 1000000000) (h : ∀ s', Grew s s' → Q (.int .i64 (1 + x.sn + x.cn)) s') : call E 56 [x.v] s Q := by
  refine inst_Instance_Nodes.of E _ _ _ _ _ _ _ _ _ _ _ _ _ _ _ _ _ s Q ?_
  refine inst_new (x := x) fun s1 h1 h2 h3 => ?_
  simp only [h3.r, IV.l5, IV.l6, ex_slc]
  rw [w64 (n := (1 : Int) + (x.sn : Nat)) (by omega) (by omega), w64 (by omega) (by omega)]
  exact h s1 h2
theorem At_ok (x : IV) (c : Int) (hs : x.sn ≤ 1000000000) (hc : -1000000000 ≤ c ∧ c ≤ 1000000000) (h : ∀ s', Grew s s' → Q (.int .i64 (1 + x.sn + c)) s') : call E 44 [x.v, .int .i64 c] s Q := by
  refine law11_At.of E _ _ _ _ _ _ _ _ _ _ _ _ _ _ _ _ _ c s Q ?_
  refine inst_new (x := x) fun s1 h1 h2 h3 => ?_
  simp only [h3.r, IV.l5, IV.l6, ex_slc]
  rw [w64 (n := (1 : Int) + (x.sn : Nat)) (by omega) (by omega), w64 (by omega) (by omega)]
  exact h s1 h2
theorem Customer_ok (x : IV) (c : Int) (hs : x.sn ≤ 1000000000) (hc : -1000000000 ≤ c ∧ c ≤ 1000000000) (h : ∀ s', Grew s s' → Q (.int .i64 (1 + x.sn + c)) s') : call E 40 [x.v, .int .i64 c] s Q := by
  refine inst_Instance_Customer.of E _ _ _ _ _ _ _ _ _ _ _ _ _ _ _ _ _ c s Q ?_
  refine inst_new (x := x) fun s1 h1 h2 h3 => ?_
  simp only [h3.r, IV.l5, IV.l6, ex_slc]
  rw [w64 (n := (1 : Int) + (x.sn : Nat)) (by omega) (by omega), w64 (by omega) (by omega)]
  exact h s1 h2
theorem Sat_ok (x : IV) (c : Int) (hc : -1000000000 ≤ c ∧ c ≤ 1000000000) (h : ∀ s', Grew s s' → Q (.int .i64 (1 + c)) s') : call E 41 [x.v, .int .i64 c] s Q := by
  refine inst_Instance_Sat.of E _ _ _ _ _ _ _ _ _ _ _ _ _ _ _ _ _ c s Q ?_
  refine inst_new (x := x) fun s1 h1 h2 h3 => ?_
  rw [w64 (by omega) (by omega)]
  exact h s1 h2
theorem may_ok (n l : Int) (h : Q (.bool (decide (l ≤ n ∧ n ≤ 1000000000))) s) : call E 84 [.int .i64 n, .int .i64 l] s Q := by
  refine inst_may.of E n l s Q ?_
  refine bif_of (fun h1 => ?_) fun h1 => ?_
  · have h1 : n ≥ l := of_decide_eq_true h1
    rw [show decide (n ≤ 1000000000) = decide (l ≤ n ∧ n ≤ 1000000000) from decide_eq_decide.2 ⟨fun h => ⟨h1, h⟩, fun h => h.2⟩]
    exact h
  · have h1 : ¬ n ≥ l := of_decide_eq_false h1
    rw [show false = decide (l ≤ n ∧ n ≤ 1000000000) from (decide_eq_false fun h => h1 h.1).symm]
    exact h
theorem many_ok (n l : Int) (h : Q (.bool (decide (1 ≤ n ∧ n ≤ l))) s) : call E 54 [.int .i64 n, .int .i64 l] s Q := by
  refine inst_Instance_Checkf1.of E n l s Q ?_
  refine bif_of (fun h1 => ?_) fun h1 => ?_
  · have h1 : n ≥ 1 := of_decide_eq_true h1
    rw [show decide (n ≤ l) = decide (1 ≤ n ∧ n ≤ l) from decide_eq_decide.2 ⟨fun h => ⟨h1, h⟩, fun h => h.2⟩]
    exact h
  · have h1 : ¬ n ≥ 1 := of_decide_eq_false h1
    rw [show false = decide (1 ≤ n ∧ n ≤ l) from (decide_eq_false fun h => h1 h.1).symm]
    exact h
end
end Go.Proofs.YtoimffkejoeadaaGreatDoor.Vm
/- What the set's functions answer, of sets of the numbers below six. -/
namespace Go.Proofs.YtoimffkejoeadaaGreatDoor.Vm
open Go
set_option linter.unusedVariables false
set_option linter.unusedSimpArgs false
set_option maxRecDepth 100000
/-- The numbers in a set, rising. -/
def bitsOf (x : Nat) : List Nat := (List.range 6).filter fun i => x.testBit i
def lowest (x : Nat) : Nat := (bitsOf x).headD 64
def rest (x : Nat) : Nat := if x = 0 then 0 else x - 2 ^ lowest x
def drop1 (x k : Nat) : Nat := if x.testBit k then x - 2 ^ k else x
def deb (x : Nat) : Int := Int.fdiv (IntKind.wrap .u64 ((ibits .and .u64 (x : Int) (IntKind.wrap .u64 (0 - (x : Int)))) * (285870213051353865 : Int))) (2 ^ (min (Int.toNat (58 : Int)) 64))
theorem deb_all : ∀ x : Fin 64, x.val ≠ 0 → 0 ≤ deb x.val ∧ deb x.val < 64 ∧ tab[(deb x.val).toNat]? = some (lowest x.val) ∧ lowest x.val < 6 := by decide +kernel
theorem rest_all : ∀ x : Fin 64, x.val ≠ 0 → ibits .and .u64 (x.val : Int) (IntKind.wrap .u64 ((x.val : Int) - 1)) = (rest x.val : Int) ∧ rest x.val < x.val ∧ bitsOf x.val = lowest x.val :: bitsOf (rest x.val) := by decide +kernel
theorem drop_all : ∀ x : Fin 64, ∀ k : Fin 6, ibits .andNot .u64 (x.val : Int) (IntKind.wrap .u64 ((1 : Int) * 2 ^ (min (Int.toNat (k.val : Int)) 64))) = (drop1 x.val k.val : Int) ∧ drop1 x.val k.val < 64 ∧ bitsOf (drop1 x.val k.val) = (bitsOf x.val).filter fun i => !(i == k.val) := by decide +kernel
theorem less_all : ∀ l : Fin 256, ∀ n : Fin 7, ((ibits .andNot .u64 (l.val : Int) (IntKind.wrap .u64 ((IntKind.wrap .u64 ((1 : Int) * 2 ^ (min (Int.toNat (n.val : Int)) 64))) - (1 : Int))) != (0 : Int)) = decide (2 ^ n.val ≤ l.val)) := by decide +kernel
def TabIn (E : Addr → Option Value) : Prop := ∀ k v : Nat, tab[k]? = some v → E ⟨0, k, none⟩ = some (.int .u8 (v : Int))
abbrev n64s (i : Nat) : List Value := [.int .i64 (i : Int)]
theorem flat1 : ∀ xs : List Nat, (xs.flatMap n64s).length = xs.length
  | [] => rfl
  | x :: xs => by rw [List.flatMap_cons, List.length_append, flat1 xs]; simp; omega
section
variable {E : Addr → Option Value} {s : WS} {Q : KV}
theorem Trail_ok (hE : TabIn E) (x : Nat) (h0 : x ≠ 0) (h6 : x < 64) (h : Q (.int .i64 (lowest x : Int)) s) : call E 93 [.int .u64 (x : Int)] s Q := by
  refine math_bits_TrailingZeros64.of E x s Q ?_
  refine bif_of (fun e => absurd e (by simp; omega)) fun _ => ?_
  refine math_bits_TrailingZeros64.b0_of E x s Q ?_
  obtain ⟨d1, d2, d3, d4⟩ := deb_all ⟨x, h6⟩ h0
  refine ⟨by omega, d1, d2, (lowest x : Int), ?_, ?_⟩
  · rw [padd_ext, Nat.zero_add, Nat.mul_one]
    exact hE _ _ d3
  · rw [w64 (by omega) (by simp at d4; omega)]
    exact h
theorem First_ok (hE : TabIn E) (x : Nat) (h0 : x ≠ 0) (h6 : x < 64) (h : Q (.int .i64 (lowest x : Int)) s) : call E 72 [.int .u64 (x : Int)] s Q := by
  refine set_Set_First.of E x s Q ?_
  refine bif_of (fun e => absurd e (by simp; omega)) fun _ => ?_
  refine set_Set_First.b0_of E x s Q ?_
  refine Trail_ok hE x h0 h6 ⟨_, rfl, h⟩
theorem Without_ok (x k : Nat) (h6 : x < 64) (hk : k < 6) (h : Q (.int .u64 (drop1 x k : Int)) s) : call E 42 [.int .u64 (x : Int), .int .i64 (k : Int)] s Q := by
  refine set_Set_Without.of E x k s Q ?_
  refine set_in.of E k s _ ?_
  have hd : decide ((k : Int) < 64) = true := decide_eq_true (by omega)
  have hd' : decide ((k : Int) ≥ 0) = true := decide_eq_true (by omega)
  unfold set_in.S0
  rw [hd, hd']
  refine ⟨true, rfl, ?_⟩
  refine set_Set_Without.b0_of E x k s Q ⟨by omega, ?_⟩
  rw [(drop_all ⟨x, h6⟩ ⟨k, hk⟩).1]
  exact h
theorem Less_ok (a b : Int) (h : Q (.int .u64 (ibits .andNot .u64 a b)) s) : call E 39 [.int .u64 a, .int .u64 b] s Q := set_Set_Less.of E a b s Q h
theorem All_loop (hE : TabIn E) (s0 : WS) : ∀ (m x : Nat), x ≤ m → x < 64 → ∀ (xs : List Nat) (a : Option Addr) (n c : Nat) (s : WS), xs.length + (bitsOf x).length ≤ 6 →
    Own s.h s0.n 3 1 a n c (xs.flatMap n64s) → (∀ b, a = some (here b 0) → b < s.n) → Grew s0 s →
    (∀ a n c s', Own s'.h s0.n 3 1 a n c ((xs ++ bitsOf x).flatMap n64s) → (∀ b, a = some (here b 0) → b < s'.n) → Grew s0 s' → Q (.slice a n c) s') → set_Set_All.l0 E x a n c s Q := by
  intro m
  induction m with
  | zero =>
    intro x hx h6 xs a n c s hlen ho hlt hg h
    have : x = 0 := by omega
    subst this
    refine set_Set_All.l0_of E _ a n c s Q ?_
    refine bif_of (fun e => absurd e (by simp)) fun _ => ?_
    refine set_Set_All.b2_of E a n c s Q ?_
    have e0 : bitsOf 0 = [] := by decide
    rw [e0, List.append_nil] at h
    exact h a n c s ho hlt hg
  | succ m ih =>
    intro x hx h6 xs a n c s hlen ho hlt hg h
    by_cases h0 : x = 0
    · subst h0
      refine set_Set_All.l0_of E _ a n c s Q ?_
      refine bif_of (fun e => absurd e (by simp)) fun _ => ?_
      refine set_Set_All.b2_of E a n c s Q ?_
      have e0 : bitsOf 0 = [] := by decide
      rw [e0, List.append_nil] at h
      exact h a n c s ho hlt hg
    · obtain ⟨r1, r2, r3⟩ := rest_all ⟨x, h6⟩ h0
      simp only at r1 r2 r3
      rw [r3] at hlen h
      simp only [List.length_cons] at hlen
      refine set_Set_All.l0_of E _ a n c s Q ?_
      refine bif_of (fun _ => ?_) fun e => absurd e (by simp; omega)
      refine set_Set_All.b1_of E _ a n c s Q ?_
      refine First_ok hE x h0 h6 ⟨_, rfl, ?_⟩
      have hxl : n = xs.length := by have := ho.len; rw [flat1] at this; omega
      refine app1 ho hlt hg.n rfl (by omega) (by simp [one]) (by omega) fun s' k1 k2 k3 k4 => ?_
      rw [r1]
      refine ih (rest x) (by omega) (by omega) (xs ++ [lowest x]) _ _ _ s' (by simp; omega) ?_ (fun b hb => ?_) (k3 s0 (Nat.le_refl _) hg) fun a n c s' q1 q2 q3 => ?_
      · rw [List.flatMap_append]
        exact k1
      · injection hb with hb
        injection hb with hb
        omega
      · refine h a n c s' ?_ q2 q3
        rw [List.append_assoc] at q1
        exact q1
theorem All_ok (hE : TabIn E) (x : Nat) (h6 : x < 64)
    (h : ∀ a n c s', Slc E s'.h s'.n 1 n64s a n c (bitsOf x) → Grew s s' → Q (.slice a n c) s') : call E 43 [.int .u64 (x : Int)] s Q := by
  refine set_Set_All.of E x s Q ?_
  have hl : ∀ x : Fin 64, (bitsOf x.val).length ≤ 6 := by decide +kernel
  refine All_loop hE s x x (Nat.le_refl _) h6 [] none 0 0 s (by simpa using hl ⟨x, h6⟩) .nil (fun b hb => by cases hb) (Grew.refl s) fun a n c s' q1 q2 q3 => ?_
  exact h a n c s' (Own.slc q1 (fun _ _ => rfl) (by omega) q2) q3
end
end Go.Proofs.YtoimffkejoeadaaGreatDoor.Vm
