/- Check's parts: squares are square, numbers lie within bounds. -/
import Derived.Test.YtoimffkejoeadaaGreatDoorS7
import Derived.Test.YtoimffkejoeadaaGreatDoorGh
namespace Go.Proofs.YtoimffkejoeadaaGreatDoor.Vm
open Go
set_option linter.unusedVariables false
set_option linter.unusedSimpArgs false
set_option maxRecDepth 10000
section
variable {E : Addr → Option Value} {s0 s : WS} {Q : KV}
/-- A row of a matrix. -/
theorem Mat.row {h : Nat → Option PB} {N : Nat} {a : Option Addr} {m c : Nat} {L : List (List Int)} (H : Mat E h N a m c L) {i : Nat} {r : List Int} (hr : L[i]? = some r) :
    ∃ (ad : Addr) (v : Option Addr × Nat × Nat), a = some ad ∧ Old N (padd ad i) ∧ rd E h (padd ad i) = some (.slice v.1 v.2.1 v.2.2) ∧ Slc E h N 1 i64s v.1 v.2.1 v.2.2 r := by
  obtain ⟨vs, h1, h2, h3⟩ := H
  obtain ⟨hi, _⟩ := List.getElem?_eq_some_iff.1 hr
  obtain ⟨v, hv⟩ : ∃ v, vs[i]? = some v := ⟨_, List.getElem?_eq_getElem (by omega)⟩
  obtain ⟨ad, had, hrd⟩ := h1.at hv (j := 0) (u := .slice v.1 v.2.1 v.2.2) rfl
  rw [Nat.mul_one, Nat.add_zero] at hrd
  exact ⟨ad, v, had, (h1.old ad had).padd _, hrd, h3 i v r hv hr⟩
theorem Mat.len {h : Nat → Option PB} {N : Nat} {a : Option Addr} {m c : Nat} {L : List (List Int)} (H : Mat E h N a m c L) : m = L.length := by
  obtain ⟨vs, h1, h2, h3⟩ := H
  rw [h1.len, h2]
theorem idxf_ok {a : Option Addr} {m c n : Nat} {g : Nat} {e st : Nat} {L : List (List Int)} (H : Mat E s.h s.n a m c L) (hr : ∀ r ∈ L, r.length = n) (hm : m ≤ 1000000) (hg : s.h g = some ⟨[.int .i64 n], e, st⟩) (h : Q (.int .i64 (-1)) s) :
    ∀ (d k : Nat), m - k = d → k ≤ m → slices_IndexFunc_of_int64_inst_squaref1.l0 E a m c (here g 0) m k s Q := by
  have hlen := H.len
  intro d
  induction d with
  | zero =>
    intro k hd hk
    refine slices_IndexFunc_of_int64_inst_squaref1.l0_of E _ _ _ _ _ _ s Q ?_
    refine bif_of (fun e => absurd e (by simp; omega)) fun _ => ?_
    exact slices_IndexFunc_of_int64_inst_squaref1.b2_of E s Q h
  | succ d ih =>
    intro k hd hk
    refine slices_IndexFunc_of_int64_inst_squaref1.l0_of E _ _ _ _ _ _ s Q ?_
    refine bif_of (fun _ => ?_) fun e => absurd e (by simp; omega)
    refine slices_IndexFunc_of_int64_inst_squaref1.b1_of E _ _ _ _ _ _ s Q ?_
    obtain ⟨r, hk'⟩ : ∃ r, L[k]? = some r := ⟨_, List.getElem?_eq_getElem (by omega)⟩
    obtain ⟨ad, v, had, _, hrd, hs⟩ := H.row hk'
    have hl : v.2.1 = n := hs.len.trans (hr r (List.mem_of_getElem? hk'))
    refine ⟨by omega, by omega, ad, had, v.1, v.2.1, v.2.2, by rw [Int.toNat_natCast, Nat.mul_one]; exact hrd, ?_⟩
    refine inst_squaref1.of E _ _ _ _ s _ ⟨n, by rw [rd_at hg]; rfl, _, rfl, ?_⟩
    rw [hl]
    refine bif_of (fun e => absurd e (by simp)) fun _ => ?_
    refine slices_IndexFunc_of_int64_inst_squaref1.b3_of E _ _ _ _ _ _ s Q ?_
    show slices_IndexFunc_of_int64_inst_squaref1.l0 E _ _ _ _ _ (IntKind.wrap .i64 ((k : Int) + 1)) s Q
    rw [w64 (by omega) (by omega)]
    exact ih (k + 1) (by omega) (by omega)
theorem isq_ok {a : Option Addr} {m c : Nat} {L : List (List Int)} (H : Mat E s.h s.n a m c L) (hr : ∀ r ∈ L, r.length = L.length) (hm : L.length ≤ 1000000) (h : ∀ s', Grew s s' → Q (.bool true) s') : call E 55 [.slice a m c, .int .i64 (L.length : Nat)] s Q := by
  refine inst_square.of E _ _ _ _ s Q ?_
  have hlen := H.len
  refine wnew_of fun s1 p1 p2 p3 => ?_
  have hg : s1.h s.n = some ⟨[.int .i64 (L.length : Nat)], 3, 1⟩ := by rw [p2, upd_same]
  refine ⟨_, by rw [rd_at hg]; rfl, ?_⟩
  refine bif_of (fun _ => ?_) fun e => absurd e (by simp [hlen])
  refine slices_ContainsFunc_of_int64_inst_squaref1.of E _ _ _ _ s1 _ ?_
  refine slices_IndexFunc_of_int64_inst_squaref1.of E _ _ _ _ s1 _ ?_
  exact idxf_ok (n := L.length) ((H.agree p3.h).mono p3.n) hr (by omega) hg ⟨_, rfl, _, rfl, h s1 p3⟩ (m - 0) 0 rfl (by omega)
end
/-- Numbers within bounds. -/
abbrev inB (l n : Int) : Prop := l ≤ n ∧ n ≤ 1000000000
structure NumOk (X : XI) : Prop where
  e : inB 0 X.e
  tr : inB 0 X.tr
  br : inB 0 X.br
  s : ∀ x ∈ X.sats, inB 0 x.1 ∧ inB 0 x.2
  c : ∀ x ∈ X.custs, inB 1 x.1 ∧ inB 0 x.2.1 ∧ inB x.2.1 x.2.2.1 ∧ inB 0 x.2.2.2
  o : ∀ (i k : Nat) (r : List Int) (n : Int), X.cost[i]? = some r → r[k]? = some n → inB 0 n ∧ (i = k → n = 0)
  t : ∀ (i k : Nat) (r : List Int) (n : Int), X.time[i]? = some r → r[k]? = some n → inB 0 n ∧ (i = k → n = 0)
section
variable {E : Addr → Option Value} {s0 : WS} {Q : KV} {y : IV} {X : XI}
theorem num_sats (H : InstOk E s0.h s0.n y X) (N : NumOk X) {x1 : Addr} (hsz : y.sn ≤ 1000000) (hK : ∀ s', Grew s0 s' → inst_Instance_numbers.b3 E x1 true s' Q) :
    ∀ (d k : Nat), y.sn - k = d → k ≤ y.sn → ∀ s : WS, Grew s0 s → inst_Instance_numbers.l1 E x1 true y.sa y.sn y.sc y.sn k s Q := by
  have hlen := H.s.len
  intro d
  induction d with
  | zero =>
    intro k hd hk s hg
    refine inst_Instance_numbers.l1_of E _ _ _ _ _ _ _ s Q ?_
    refine bif_of (fun e => absurd e (by simp; omega)) fun _ => ?_
    exact hK s hg
  | succ d ih =>
    intro k hd hk s hg
    refine inst_Instance_numbers.l1_of E _ _ _ _ _ _ _ s Q ?_
    refine bif_of (fun _ => ?_) fun e => absurd e (by simp; omega)
    refine inst_Instance_numbers.b2_of E _ _ _ _ _ _ _ s Q ?_
    obtain ⟨x, hx⟩ : ∃ x, X.sats[k]? = some x := ⟨_, List.getElem?_eq_getElem (by omega)⟩
    obtain ⟨b1, b2⟩ := N.s x (List.mem_of_getElem? hx)
    obtain ⟨ad, had⟩ := H.s.some' (by intro e; rw [e] at hx; simp at hx)
    have hold := H.s.old ad had
    have rr : ∀ (j : Nat) u, (i64p x)[j]? = some u → rd E s.h (padd (padd ad (Int.toNat (k : Int) * 2)) j) = some u := fun j u hu => by
      rw [padd_padd, Int.toNat_natCast, rd_agree hg.h (hold.padd _)]
      exact H.s.cell ad had k x hx j u hu
    refine ⟨by omega, by omega, ad, had, x.1, rr 0 _ rfl, x.2, rr 1 _ rfl, ?_⟩
    refine wnew_of fun s1 p1 p2 p3 => ?_
    refine wstore_of (by rw [p2, upd_same]) (by simp) (by simp [one]) fun s2 q1 q2 q3 => ?_
    have hblk : s2.h s.n = some ⟨i64p x, 37, 2⟩ := by rw [q2, upd_same]; rfl
    have rb : ∀ j, rd E s2.h (padd (here s.n 0) j) = (i64p x)[j]? := fun j => by rw [padd_here, rd_at hblk, Nat.zero_add]
    refine bif_of (fun _ => ?_) fun e => absurd e (by simp)
    refine ⟨x.1, rb 0, may_ok _ _ ⟨_, rfl, ?_⟩⟩
    rw [decide_eq_true b1]
    refine bif_of (fun _ => ?_) fun e => absurd e (by simp)
    refine ⟨x.2, rb 1, may_ok _ _ ⟨_, rfl, ?_⟩⟩
    rw [decide_eq_true b2]
    refine inst_Instance_numbers.b4_of E _ _ _ _ _ _ _ s2 Q ?_
    show inst_Instance_numbers.l1 E _ _ _ _ _ _ (IntKind.wrap .i64 ((k : Int) + 1)) s2 Q
    rw [w64 (by omega) (by omega)]
    exact ih (k + 1) (by omega) (by omega) s2 ((hg.trans p3).stored (by have := hg.n; omega) q1 q2 q3)
theorem num_custs (H : InstOk E s0.h s0.n y X) (N : NumOk X) {x1 : Addr} (hsz : y.cn ≤ 1000000) (hK : ∀ s', Grew s0 s' → inst_Instance_numbers.b7 E x1 true s' Q) :
    ∀ (d k : Nat), y.cn - k = d → k ≤ y.cn → ∀ s : WS, Grew s0 s → inst_Instance_numbers.l5 E x1 true y.ca y.cn y.cc y.cn k s Q := by
  have hlen := H.c.len
  intro d
  induction d with
  | zero =>
    intro k hd hk s hg
    refine inst_Instance_numbers.l5_of E _ _ _ _ _ _ _ s Q ?_
    refine bif_of (fun e => absurd e (by simp; omega)) fun _ => ?_
    exact hK s hg
  | succ d ih =>
    intro k hd hk s hg
    refine inst_Instance_numbers.l5_of E _ _ _ _ _ _ _ s Q ?_
    refine bif_of (fun _ => ?_) fun e => absurd e (by simp; omega)
    refine inst_Instance_numbers.b6_of E _ _ _ _ _ _ _ s Q ?_
    obtain ⟨x, hx⟩ : ∃ x, X.custs[k]? = some x := ⟨_, List.getElem?_eq_getElem (by omega)⟩
    obtain ⟨b1, b2, b3, b4⟩ := N.c x (List.mem_of_getElem? hx)
    obtain ⟨ad, had⟩ := H.c.some' (by intro e; rw [e] at hx; simp at hx)
    have hold := H.c.old ad had
    have rr : ∀ (j : Nat) u, (i64q x)[j]? = some u → rd E s.h (padd (padd ad (Int.toNat (k : Int) * 4)) j) = some u := fun j u hu => by
      rw [padd_padd, Int.toNat_natCast, rd_agree hg.h (hold.padd _)]
      exact H.c.cell ad had k x hx j u hu
    refine ⟨by omega, by omega, ad, had, _, rr 0 _ rfl, _, rr 1 _ rfl, _, rr 2 _ rfl, _, rr 3 _ rfl, ?_⟩
    refine wnew_of fun s1 p1 p2 p3 => ?_
    refine wstore_of (by rw [p2, upd_same]) (by simp) (by simp [one]) fun s2 q1 q2 q3 => ?_
    have hblk : s2.h s.n = some ⟨i64q x, 39, 4⟩ := by rw [q2, upd_same]; rfl
    have rb : ∀ j, rd E s2.h (padd (here s.n 0) j) = (i64q x)[j]? := fun j => by rw [padd_here, rd_at hblk, Nat.zero_add]
    refine bif_of (fun _ => ?_) fun e => absurd e (by simp)
    refine ⟨_, rb 0, may_ok _ _ ⟨_, rfl, ?_⟩⟩
    rw [decide_eq_true b1]
    refine bif_of (fun _ => ?_) fun e => absurd e (by simp)
    refine ⟨_, rb 1, may_ok _ _ ⟨_, rfl, ?_⟩⟩
    rw [decide_eq_true b2]
    refine bif_of (fun _ => ?_) fun e => absurd e (by simp)
    refine ⟨_, rb 2, _, rb 1, may_ok _ _ ⟨_, rfl, ?_⟩⟩
    rw [decide_eq_true b3]
    refine bif_of (fun _ => ?_) fun e => absurd e (by simp)
    refine ⟨_, rb 3, may_ok _ _ ⟨_, rfl, ?_⟩⟩
    rw [decide_eq_true b4]
    refine inst_Instance_numbers.b8_of E _ _ _ _ _ _ _ s2 Q ?_
    show inst_Instance_numbers.l5 E _ _ _ _ _ _ (IntKind.wrap .i64 ((k : Int) + 1)) s2 Q
    rw [w64 (by omega) (by omega)]
    exact ih (k + 1) (by omega) (by omega) s2 ((hg.trans p3).stored (by have := hg.n; omega) q1 q2 q3)
end
section
variable {E : Addr → Option Value} {s : WS} {Q : KV} {a1 a2 : Option Addr} {n1 n2 c1 c2 : Nat} {z : Int}
theorem num_row (i : Nat) {a : Option Addr} {n c : Nat} {xa : Option Addr} {xn xc : Nat} {xm xi : Int} {r : List Int} (H : Slc E s.h s.n 1 i64s a n c r) (hn : n ≤ 1000000) (hr : ∀ (k : Nat) (m : Int), r[k]? = some m → inB 0 m ∧ (i = k → m = 0))
    (hK : inst_Instance_numbers.b17 E true a1 n1 c1 a2 n2 c2 z xa xn xc xm xi s Q) :
    ∀ (d k : Nat), n - k = d → k ≤ n → inst_Instance_numbers.l15 E true i a1 n1 c1 a2 n2 c2 z xa xn xc xm xi a n c n k s Q := by
  have hlen := H.len
  intro d
  induction d with
  | zero =>
    intro k hd hk
    refine inst_Instance_numbers.l15_of E _ _ _ _ _ _ _ _ _ _ _ _ _ _ _ _ _ _ _ s Q ?_
    refine bif_of (fun e => absurd e (by simp; omega)) fun _ => hK
  | succ d ih =>
    intro k hd hk
    refine inst_Instance_numbers.l15_of E _ _ _ _ _ _ _ _ _ _ _ _ _ _ _ _ _ _ _ s Q ?_
    refine bif_of (fun _ => ?_) fun e => absurd e (by simp; omega)
    refine inst_Instance_numbers.b16_of E _ _ _ _ _ _ _ _ _ _ _ _ _ _ _ _ _ _ _ s Q ?_
    obtain ⟨m, hm⟩ : ∃ m, r[k]? = some m := ⟨_, List.getElem?_eq_getElem (by omega)⟩
    obtain ⟨ad, had, hrd⟩ := H.at hm (j := 0) (u := .int .i64 m) rfl
    obtain ⟨b1, b2⟩ := hr k m hm
    have next : inst_Instance_numbers.b18 E true i a1 n1 c1 a2 n2 c2 z xa xn xc xm xi a n c n k s Q := by
      refine inst_Instance_numbers.b18_of E _ _ _ _ _ _ _ _ _ _ _ _ _ _ _ _ _ _ _ s Q ?_
      show inst_Instance_numbers.l15 E _ _ _ _ _ _ _ _ _ _ _ _ _ _ _ _ _ _ (IntKind.wrap .i64 ((k : Int) + 1)) s Q
      rw [w64 (by omega) (by omega)]
      exact ih (k + 1) (by omega) (by omega)
    refine ⟨by omega, by omega, ad, had, m, by rw [Int.toNat_natCast]; exact hrd, ?_⟩
    refine bif_of (fun _ => ?_) fun e => absurd e (by simp)
    refine may_ok _ _ ⟨_, rfl, ?_⟩
    rw [decide_eq_true b1]
    refine bif_of (fun _ => ?_) fun e => absurd e (by simp)
    refine bif_of (fun e => next) fun e => ?_
    have hik : i = k := by
      have h := e
      simp at h
      omega
    rw [b2 hik]
    exact next
theorem num_mat {a : Option Addr} {n c : Nat} {L : List (List Int)} (H : Mat E s.h s.n a n c L) (hn : n ≤ 1000000) (hw : ∀ r ∈ L, r.length ≤ 1000000) (hr : ∀ (i k : Nat) (r : List Int) (m : Int), L[i]? = some r → r[k]? = some m → inB 0 m ∧ (i = k → m = 0))
    (hK : inst_Instance_numbers.b14 E true a1 n1 c1 a2 n2 c2 z s Q) :
    ∀ (d k : Nat), n - k = d → k ≤ n → inst_Instance_numbers.l12 E true a1 n1 c1 a2 n2 c2 z a n c n k s Q := by
  have hlen := H.len
  intro d
  induction d with
  | zero =>
    intro k hd hk
    refine inst_Instance_numbers.l12_of E _ _ _ _ _ _ _ _ _ _ _ _ _ s Q ?_
    refine bif_of (fun e => absurd e (by simp; omega)) fun _ => hK
  | succ d ih =>
    intro k hd hk
    refine inst_Instance_numbers.l12_of E _ _ _ _ _ _ _ _ _ _ _ _ _ s Q ?_
    refine bif_of (fun _ => ?_) fun e => absurd e (by simp; omega)
    refine inst_Instance_numbers.b13_of E _ _ _ _ _ _ _ _ _ _ _ _ _ s Q ?_
    obtain ⟨r, hk'⟩ : ∃ r, L[k]? = some r := ⟨_, List.getElem?_eq_getElem (by omega)⟩
    obtain ⟨ad, v, had, _, hrd, hs⟩ := H.row hk'
    refine ⟨by omega, by omega, ad, had, v.1, v.2.1, v.2.2, by rw [Int.toNat_natCast, Nat.mul_one]; exact hrd, ?_⟩
    refine num_row k hs (by rw [hs.len]; exact hw r (List.mem_of_getElem? hk')) (fun j m hm => hr k j r m hk' hm) ?_ (v.2.1 - 0) 0 rfl (by omega)
    refine inst_Instance_numbers.b17_of E _ _ _ _ _ _ _ _ _ _ _ _ _ s Q ?_
    show inst_Instance_numbers.l12 E _ _ _ _ _ _ _ _ _ _ _ _ (IntKind.wrap .i64 ((k : Int) + 1)) s Q
    rw [w64 (by omega) (by omega)]
    exact ih (k + 1) (by omega) (by omega)
end
section
variable {E : Addr → Option Value} {s0 : WS} {Q : KV} {y : IV} {X : XI}
theorem numbers_ok (H : InstOk E s0.h s0.n y X) (N : NumOk X) (h1 : y.sn ≤ 1000000) (h2 : y.cn ≤ 1000000) (h3 : y.on ≤ 1000000) (h4 : y.tn ≤ 1000000) (h5 : ∀ r ∈ X.cost, r.length ≤ 1000000) (h6 : ∀ r ∈ X.time, r.length ≤ 1000000)
    (h : ∀ s', Grew s0 s' → Q (.bool true) s') : call E 57 [y.v] s0 Q := by
  refine inst_Instance_numbers.of E _ _ _ _ _ _ _ _ _ _ _ _ _ _ _ _ _ s0 Q ?_
  refine inst_new (x := y) fun s1 p1 p2 p3 => ?_
  simp only [inst_Instance_numbers.S0, padd_padd, p3.r, IV.l0, IV.l2, IV.l4, ex_int]
  have be : 0 ≤ y.e ∧ y.e ≤ 1000000000 := by rw [H.e]; exact N.e
  have bt : 0 ≤ y.tr ∧ y.tr ≤ 1000000000 := by rw [H.tr]; exact N.tr
  have bb : 0 ≤ y.br ∧ y.br ≤ 1000000000 := by rw [H.br]; exact N.br
  refine may_ok _ _ ⟨_, rfl, ?_⟩
  rw [decide_eq_true be]
  refine bif_of (fun _ => ?_) fun e => absurd e (by simp)
  refine ⟨_, p3.r 2, may_ok _ _ ⟨_, rfl, ?_⟩⟩
  rw [decide_eq_true bt]
  refine bif_of (fun _ => ?_) fun e => absurd e (by simp)
  refine ⟨_, p3.r 4, may_ok _ _ ⟨_, rfl, ?_⟩⟩
  rw [decide_eq_true bb]
  refine inst_Instance_numbers.b0_of E _ _ s1 Q ?_
  refine ⟨_, _, _, p3.r 5, ?_⟩
  have H1 : InstOk E s1.h s1.n y X := (H.agree p2.h).mono p2.n
  have y2 : ∀ s', Grew s1 s' → InstIn s'.h s0.n y := fun s' g => p3.agree g.h (by omega)
  refine num_sats H1 N h1 (fun s2 g2 => ?_) (y.sn - 0) 0 rfl (by omega) s1 (Grew.refl s1)
  refine inst_Instance_numbers.b3_of E _ _ s2 Q ?_
  refine ⟨_, _, _, (y2 s2 g2).r 6, ?_⟩
  refine num_custs H1 N h2 (fun s3 g3 => ?_) (y.cn - 0) 0 rfl (by omega) s2 g2
  refine inst_Instance_numbers.b7_of E _ _ s3 Q ?_
  refine ⟨_, _, _, (y2 s3 g3).r 7, _, _, _, (y2 s3 g3).r 8, ?_⟩
  have Ho : Mat E s3.h s3.n y.oa y.on y.oc X.cost := (H1.o.agree g3.h).mono g3.n
  have Ht : Mat E s3.h s3.n y.ta y.tn y.tc X.time := (H1.t.agree g3.h).mono g3.n
  refine inst_Instance_numbers.l9_of E _ _ _ _ _ _ _ _ s3 Q ?_
  refine bif_of (fun _ => ?_) fun e => absurd e (by simp)
  refine inst_Instance_numbers.b10_of E _ _ _ _ _ _ _ _ s3 Q ?_
  refine ⟨by omega, by omega, y.oa, y.on, y.oc, rfl, ?_⟩
  refine num_mat Ho h3 h5 N.o ?_ (y.on - 0) 0 rfl (by omega)
  refine inst_Instance_numbers.b14_of E _ _ _ _ _ _ _ _ s3 Q ?_
  refine inst_Instance_numbers.l9_of E _ _ _ _ _ _ _ _ s3 Q ?_
  refine bif_of (fun _ => ?_) fun e => absurd e (by decide)
  refine inst_Instance_numbers.b10_of E _ _ _ _ _ _ _ _ s3 Q ?_
  refine ⟨by decide, by decide, y.ta, y.tn, y.tc, rfl, ?_⟩
  refine num_mat Ht h4 h6 N.t ?_ (y.tn - 0) 0 rfl (by omega)
  refine inst_Instance_numbers.b14_of E _ _ _ _ _ _ _ _ s3 Q ?_
  refine inst_Instance_numbers.l9_of E _ _ _ _ _ _ _ _ s3 Q ?_
  refine bif_of (fun e => absurd e (by decide)) fun _ => ?_
  refine inst_Instance_numbers.b11_of E _ s3 Q ?_
  exact h s3 (p2.trans g3)
end
end Go.Proofs.YtoimffkejoeadaaGreatDoor.Vm
/- Check, of an instance without fault. -/
namespace Go.Proofs.YtoimffkejoeadaaGreatDoor.Vm
open Go
set_option linter.unusedVariables false
set_option linter.unusedSimpArgs false
set_option maxRecDepth 10000
/-- An instance without fault. -/
structure GoodX (X : XI) : Prop where
  num : NumOk X
  tm : 1 ≤ X.tm ∧ X.tm ≤ 60
  bm : 1 ≤ X.bm ∧ X.bm ≤ 60
  s1 : 1 ≤ X.sats.length
  s2 : X.sats.length ≤ 12
  c1 : 1 ≤ X.custs.length
  c2 : X.custs.length ≤ 48
  o : X.cost.length = 1 + X.sats.length + X.custs.length
  ow : ∀ r ∈ X.cost, r.length = 1 + X.sats.length + X.custs.length
  t : X.time.length = 1 + X.sats.length + X.custs.length
  tw : ∀ r ∈ X.time, r.length = 1 + X.sats.length + X.custs.length
section
variable {E : Addr → Option Value} {s0 : WS} {Q : KV} {y : IV} {X : XI}
theorem check_b0 (H : InstOk E s0.h s0.n y X) (G : GoodX X) {b : Nat} (s : WS) (hg : Grew s0 s) (hy : InstIn s.h b y) (hb : b < s.n) (h : ∀ s', Grew s0 s' → InstIn s'.h b y → inst_Instance_Check.b1 E (here b 0) false s' Q) : inst_Instance_Check.b0 E (here b 0) false s Q := by
  refine inst_Instance_Check.b0_of E _ _ s Q ?_
  have hs := H.s.len
  have hc := H.c.len
  have g1 := G.s2
  have g2 := G.c2
  refine bif_of (fun e => absurd e (by simp)) fun _ => ?_
  simp only [z_h, hy.r, IV.l0, IV.l1, IV.l2, IV.l3, IV.l4, IV.l5, IV.l6, IV.l7, IV.l8, ex_slc, ex_int]
  have hnn : ((1 : Int) + (y.sn : Int) + (y.cn : Int)) = ((X.cost.length : Nat) : Int) := by rw [G.o]; omega
  have hnt : ((1 : Int) + (y.sn : Int) + (y.cn : Int)) = ((X.time.length : Nat) : Int) := by rw [G.t]; omega
  refine iNodes_ok (s := s.z) y (by omega) (by omega) fun s12 g12 => ⟨_, rfl, apart_addr g12 (by rw [padd_here]; exact Old.here hb), fun s14 e14 => ?_⟩
  have G14 : Grew s s14 := by rw [e14]; exact Grew.z s g12
  rw [hnn]
  have g14 := hg.trans G14
  refine isq_ok (s := s14.z) ((H.o.agree g14.h).mono g14.n) (fun r hr => by rw [G.ow r hr, G.o]) (by rw [G.o]; omega) fun s16 g16 => ⟨true, rfl, fun s18 e18 => ?_⟩
  have G18 : Grew s14 s18 := by rw [e18]; exact Grew.z s14 g16
  have y18 : InstIn s18.h b y := hy.agree (G14.trans G18).h hb
  have n14 := G14.n
  have n18 := G18.n
  refine bif_of (fun e => absurd e (by simp)) fun _ => ?_
  simp only [z_h, y18.r, IV.l0, IV.l1, IV.l2, IV.l3, IV.l4, IV.l5, IV.l6, IV.l7, IV.l8, ex_slc, ex_int]
  refine iNodes_ok (s := s18.z) y (by omega) (by omega) fun s33 g33 => ⟨_, rfl, apart_addr g33 (by rw [padd_here]; exact Old.here (by omega)), fun s35 e35 => ?_⟩
  have G35 : Grew s18 s35 := by rw [e35]; exact Grew.z s18 g33
  rw [hnt]
  have g35 := (g14.trans G18).trans G35
  refine isq_ok (s := s35.z) ((H.t.agree g35.h).mono g35.n) (fun r hr => by rw [G.tw r hr, G.t]) (by rw [G.t]; omega) fun s37 g37 => ⟨true, rfl, fun s39 e39 => ?_⟩
  have G39 : Grew s35 s39 := by rw [e39]; exact Grew.z s35 g37
  exact h s39 (g35.trans G39) (y18.agree (G35.trans G39).h (by omega))
theorem Check_ok (H : InstOk E s0.h s0.n y X) (G : GoodX X) (h : ∀ s', Grew s0 s' → Q (.int .i64 0) s') : call E 31 [y.v] s0 Q := by
  refine inst_Instance_Check.of E _ _ _ _ _ _ _ _ _ _ _ _ _ _ _ _ _ s0 Q ?_
  have hs := H.s.len
  have hc := H.c.len
  have g1 := G.s1
  have g2 := G.s2
  have g3 := G.c1
  have g4 := G.c2
  refine inst_new (x := y) fun s1 p1 p2 p3 => ?_
  simp only [inst_Instance_Check.S0, padd_padd, p3.r, IV.l5, IV.l6, ex_slc]
  have bt : 1 ≤ y.tm ∧ y.tm ≤ 60 := by rw [H.tm]; exact G.tm
  have bb : 1 ≤ y.bm ∧ y.bm ≤ 60 := by rw [H.bm]; exact G.bm
  have bs : (1 : Int) ≤ (y.sn : Int) ∧ (y.sn : Int) ≤ 12 := by omega
  have bc : (1 : Int) ≤ (y.cn : Int) ∧ (y.cn : Int) ≤ 48 := by omega
  refine ⟨y.tm, rfl, many_ok _ _ ⟨_, rfl, ?_⟩⟩
  rw [decide_eq_true bt]
  refine bif_of (fun e => absurd e (by simp)) fun _ => ?_
  refine ⟨y.bm, p3.r 3, many_ok _ _ ⟨_, rfl, ?_⟩⟩
  rw [decide_eq_true bb]
  refine bif_of (fun e => absurd e (by simp)) fun _ => ?_
  refine ⟨_, _, _, p3.r 5, many_ok _ _ ⟨_, rfl, ?_⟩⟩
  rw [decide_eq_true bs]
  refine bif_of (fun e => absurd e (by simp)) fun _ => ?_
  refine ⟨_, _, _, p3.r 6, many_ok _ _ ⟨_, rfl, ?_⟩⟩
  rw [decide_eq_true bc]
  refine check_b0 H G s1 p2 p3 (by omega) fun s2 k1 k2 => ?_
  refine inst_Instance_Check.b1_of E _ _ s2 Q ?_
  refine bif_of (fun e => absurd e (by simp)) fun _ => ?_
  simp only [k2.r, IV.l0, IV.l1, IV.l2, IV.l3, IV.l4, IV.l5, IV.l6, IV.l7, IV.l8, ex_slc, ex_int]
  have ho : y.on = X.cost.length := H.o.len
  have ht : y.tn = X.time.length := H.t.len
  have go := G.o
  have gt := G.t
  refine numbers_ok ((H.agree k1.h).mono k1.n) G.num (by omega) (by omega) (by omega) (by omega) (fun r hr => by rw [G.ow r hr]; omega) (fun r hr => by rw [G.tw r hr]; omega) fun s3 g3 => ⟨true, rfl, ?_⟩
  refine bif_of (fun e => absurd e (by simp)) fun _ => ?_
  refine inst_Instance_Check.b2_of E s3 Q ?_
  exact h s3 (k1.trans g3)
end
section
variable {E : Addr → Option Value} {h : Nat → Option PB} {N : Nat} {v : SmV} {D : SmD}
theorem orElse_mem {α : Type} {l : List α} {x y : α} (h : y ∈ orElse l x) : y ∈ l ∨ y = x := by
  unfold orElse at h
  split at h
  · exact .inr (by simpa using h)
  · exact .inl h
theorem orElse_pos {α : Type} (l : List α) (x : α) : 1 ≤ (orElse l x).length := by
  unfold orElse
  split
  · simp
  · next h => exact List.length_pos_iff.2 h
theorem sqr_len (l : List Int) (n : Nat) : (sqr l n).length = n := by simp [sqr]
theorem sqr_row (l : List Int) (n : Nat) : ∀ r ∈ sqr l n, r.length = n := by
  intro r hr
  simp only [sqr, List.mem_map] at hr
  obtain ⟨i, _, rfl⟩ := hr
  simp [sqRow]
theorem sqr_num (l : List Int) (n : Nat) (hl : ∀ x ∈ l, U8 x) : ∀ (i k : Nat) (r : List Int) (m : Int), (sqr l n)[i]? = some r → r[k]? = some m → inB 0 m ∧ (i = k → m = 0) := by
  intro i k r m hr hm
  have hi : i < n := by have := (List.getElem?_eq_some_iff.1 hr).1; rw [sqr_len] at this; exact this
  have hr' : r = sqRow l n i := by
    simp only [sqr, List.getElem?_map, List.getElem?_range hi, Option.map_some, Option.some.injEq] at hr
    exact hr.symm
  subst hr'
  have hk : k < n := by have := (List.getElem?_eq_some_iff.1 hm).1; simpa [sqRow] using this
  simp only [sqRow, List.getElem?_map, List.getElem?_range hk, Option.map_some, Option.some.injEq] at hm
  subst hm
  unfold entN
  split
  · next hc =>
    refine ⟨?_, fun e => absurd e hc.1⟩
    have hg : ∀ j, 0 ≤ l.getD j 0 := fun j => by
      rw [List.getD_eq_getElem?_getD]
      cases hj : l[j]? with
      | none => simp
      | some u => exact (hl u (List.mem_of_getElem? hj)).1
    have := hg ((i * (n - 1) + (if k ≤ i then k else k - 1)) % l.length)
    generalize l.getD ((i * (n - 1) + (if k ≤ i then k else k - 1)) % l.length) 0 = u at this ⊢
    constructor <;> omega
  · exact ⟨by simp [inB], fun _ => rfl⟩
theorem makeX_good (hv : SmOk E h N v D) : GoodX (makeX v D) := by
  have hw : wideOf v.loose = 9 ∨ wideOf v.loose = 1 := by unfold wideOf; cases v.loose <;> simp
  have he := hv.e
  have ht := hv.t
  have htr := hv.tr
  have hb := hv.b
  have hbr := hv.br
  refine ⟨⟨?_, ?_, ?_, ?_, ?_, sqr_num _ _ hv.uo, sqr_num _ _ hv.um⟩, ?_, ?_, orElse_pos _ _, ?_, orElse_pos _ _, ?_, sqr_len _ _, sqr_row _ _, sqr_len _ _, sqr_row _ _⟩
  · obtain ⟨h1, h2⟩ := he
    show 0 ≤ 40 + v.e * wideOf v.loose ∧ 40 + v.e * wideOf v.loose ≤ 1000000000
    rcases hw with hw | hw <;> (rw [hw]; omega)
  · obtain ⟨h1, h2⟩ := htr
    show 0 ≤ 5 + wideOf v.loose * (v.tr % 40) ∧ 5 + wideOf v.loose * (v.tr % 40) ≤ 1000000000
    rcases hw with hw | hw <;> (rw [hw]; omega)
  · obtain ⟨h1, h2⟩ := hbr
    show 0 ≤ 3 + wideOf v.loose * (v.br % 20) ∧ 3 + wideOf v.loose * (v.br % 20) ≤ 1000000000
    rcases hw with hw | hw <;> (rw [hw]; omega)
  · intro x hx
    rcases orElse_mem hx with hx | hx
    · obtain ⟨z, hz, rfl⟩ := List.mem_map.1 hx
      obtain ⟨⟨h1, h2⟩, h3, h4⟩ := hv.us z (List.mem_of_mem_take hz)
      show (0 ≤ 4 + wideOf v.loose * (z.1 % 40) ∧ 4 + wideOf v.loose * (z.1 % 40) ≤ 1000000000) ∧ 0 ≤ z.2 % 12 ∧ z.2 % 12 ≤ 1000000000
      rcases hw with hw | hw <;> (rw [hw]; omega)
    · subst hx
      simp [inB]
  · intro x hx
    rcases orElse_mem hx with hx | hx
    · obtain ⟨z, hz, rfl⟩ := List.mem_map.1 hx
      obtain ⟨⟨h1, h2⟩, ⟨h3, h4⟩, ⟨h5, h6⟩, h7, h8⟩ := hv.uc z (List.mem_of_mem_take hz)
      have hload : 1 ≤ (custOf v.tight (wideOf v.loose) z).1 ∧ (custOf v.tight (wideOf v.loose) z).1 ≤ 1000000000 := by
        show 1 ≤ (1 + z.1 % 6) + (if v.tight then z.1 / 32 else 0) ∧ (1 + z.1 % 6) + (if v.tight then z.1 / 32 else 0) ≤ 1000000000
        split <;> omega
      refine ⟨hload, ?_⟩
      show (0 ≤ z.2.1 % 50 ∧ z.2.1 % 50 ≤ 1000000000) ∧ (z.2.1 % 50 ≤ z.2.1 % 50 + wideOf v.loose * z.2.2.1 ∧ z.2.1 % 50 + wideOf v.loose * z.2.2.1 ≤ 1000000000) ∧ 0 ≤ z.2.2.2 % 8 ∧ z.2.2.2 % 8 ≤ 1000000000
      rcases hw with hw | hw <;> (rw [hw]; omega)
    · subst hx
      simp [inB]
  · obtain ⟨h1, h2⟩ := ht
    show 1 ≤ 1 + v.t % 4 ∧ 1 + v.t % 4 ≤ 60
    omega
  · obtain ⟨h1, h2⟩ := hb
    show 1 ≤ 1 + v.b % 6 ∧ 1 + v.b % 6 ≤ 60
    omega
  · show (orElse _ _).length ≤ 12
    unfold orElse
    split <;> simp <;> omega
  · show (orElse _ _).length ≤ 48
    unfold orElse
    split <;> simp <;> omega
end
end Go.Proofs.YtoimffkejoeadaaGreatDoor.Vm
