/- What 'Make' (chapter 11's law) makes: the words, and the satellites. -/
import Derived.Test.YtoimffkejoeadaaGreatDoorS4
import Derived.Test.YtoimffkejoeadaaGreatDoorGb
namespace Go.Proofs.YtoimffkejoeadaaGreatDoor.Vm
open Go
set_option linter.unusedVariables false
set_option linter.unusedSimpArgs false
set_option maxRecDepth 10000
/-- An instance by small numbers, as a value. -/
structure SmV where
  e : Int
  t : Int
  tr : Int
  b : Int
  br : Int
  sa : Option Addr
  sn : Nat
  sc : Nat
  ca : Option Addr
  cn : Nat
  cc : Nat
  oa : Option Addr
  on : Nat
  oc : Nat
  ta : Option Addr
  tn : Nat
  tc : Nat
  tight : Bool
  loose : Bool
def SmV.l (x : SmV) : List Value := [.int .u8 x.e, .int .u8 x.t, .int .u8 x.tr, .int .u8 x.b, .int .u8 x.br, .slice x.sa x.sn x.sc, .slice x.ca x.cn x.cc, .slice x.oa x.on x.oc, .slice x.ta x.tn x.tc, .bool x.tight, .bool x.loose]
def SmV.v (x : SmV) : Value := .agg ⟨x.l⟩
def SmIn (h : Nat → Option PB) (b : Nat) (x : SmV) : Prop := ∃ e st, h b = some ⟨x.l, e, st⟩
section
variable {E : Addr → Option Value} {h h' : Nat → Option PB} {b : Nat} {x : SmV}
theorem SmIn.r (H : SmIn h b x) (i : Nat) : rd E h (padd (here b 0) i) = x.l[i]? := by
  obtain ⟨e, st, H⟩ := H
  rw [padd_here, rd_at H, Nat.zero_add]
theorem SmV.l0 : x.l[0]? = some (.int .u8 x.e) := rfl
theorem SmV.l1 : x.l[1]? = some (.int .u8 x.t) := rfl
theorem SmV.l2 : x.l[2]? = some (.int .u8 x.tr) := rfl
theorem SmV.l3 : x.l[3]? = some (.int .u8 x.b) := rfl
theorem SmV.l4 : x.l[4]? = some (.int .u8 x.br) := rfl
theorem SmV.l5 : x.l[5]? = some (.slice x.sa x.sn x.sc) := rfl
theorem SmV.l6 : x.l[6]? = some (.slice x.ca x.cn x.cc) := rfl
theorem SmV.l7 : x.l[7]? = some (.slice x.oa x.on x.oc) := rfl
theorem SmV.l8 : x.l[8]? = some (.slice x.ta x.tn x.tc) := rfl
theorem SmV.l9 : x.l[9]? = some (.bool x.tight) := rfl
theorem SmV.l10 : x.l[10]? = some (.bool x.loose) := rfl
end
/-- Its data. -/
structure SmD where
  sats : List (Int × Int)
  custs : List (Int × Int × Int × Int)
  cost : List Int
  time : List Int
abbrev u8p (x : Int × Int) : List Value := [.int .u8 x.1, .int .u8 x.2]
abbrev u8q (x : Int × Int × Int × Int) : List Value := [.int .u8 x.1, .int .u8 x.2.1, .int .u8 x.2.2.1, .int .u8 x.2.2.2]
abbrev i64p (x : Int × Int) : List Value := [.int .i64 x.1, .int .i64 x.2]
abbrev i64q (x : Int × Int × Int × Int) : List Value := [.int .i64 x.1, .int .i64 x.2.1, .int .i64 x.2.2.1, .int .i64 x.2.2.2]
def U8 (n : Int) : Prop := 0 ≤ n ∧ n < 256
structure SmOk (E : Addr → Option Value) (h : Nat → Option PB) (N : Nat) (x : SmV) (D : SmD) : Prop where
  e : U8 x.e
  t : U8 x.t
  tr : U8 x.tr
  b : U8 x.b
  br : U8 x.br
  s : Slc E h N 2 u8p x.sa x.sn x.sc D.sats
  c : Slc E h N 4 u8q x.ca x.cn x.cc D.custs
  o : Slc E h N 1 u8s x.oa x.on x.oc D.cost
  m : Slc E h N 1 u8s x.ta x.tn x.tc D.time
  us : ∀ y ∈ D.sats, U8 y.1 ∧ U8 y.2
  uc : ∀ y ∈ D.custs, U8 y.1 ∧ U8 y.2.1 ∧ U8 y.2.2.1 ∧ U8 y.2.2.2
  uo : ∀ y ∈ D.cost, U8 y
  um : ∀ y ∈ D.time, U8 y
  sb : x.sn ≤ 9223372036854775807
  cb : x.cn ≤ 9223372036854775807
theorem SmOk.agree {E : Addr → Option Value} {h h' : Nat → Option PB} {N : Nat} {x : SmV} {D : SmD} (H : SmOk E h N x D) (ha : Agree N h h') : SmOk E h' N x D :=
  ⟨H.e, H.t, H.tr, H.b, H.br, H.s.agree ha, H.c.agree ha, H.o.agree ha, H.m.agree ha, H.us, H.uc, H.uo, H.um, H.sb, H.cb⟩
/-- An instance's data. -/
structure XI where
  e : Int
  tm : Int
  tr : Int
  bm : Int
  br : Int
  sats : List (Int × Int)
  custs : List (Int × Int × Int × Int)
  cost : List (List Int)
  time : List (List Int)
structure InstOk (E : Addr → Option Value) (h : Nat → Option PB) (N : Nat) (x : IV) (X : XI) : Prop where
  e : x.e = X.e
  tm : x.tm = X.tm
  tr : x.tr = X.tr
  bm : x.bm = X.bm
  br : x.br = X.br
  s : Slc E h N 2 i64p x.sa x.sn x.sc X.sats
  c : Slc E h N 4 i64q x.ca x.cn x.cc X.custs
  o : Mat E h N x.oa x.on x.oc X.cost
  t : Mat E h N x.ta x.tn x.tc X.time
theorem InstOk.agree {E : Addr → Option Value} {h h' : Nat → Option PB} {N : Nat} {x : IV} {X : XI} (H : InstOk E h N x X) (ha : Agree N h h') : InstOk E h' N x X :=
  ⟨H.e, H.tm, H.tr, H.bm, H.br, H.s.agree ha, H.c.agree ha, H.o.agree ha, H.t.agree ha⟩
theorem InstOk.mono {E : Addr → Option Value} {h : Nat → Option PB} {N M : Nat} {x : IV} {X : XI} (H : InstOk E h N x X) (hm : N ≤ M) : InstOk E h M x X :=
  ⟨H.e, H.tm, H.tr, H.bm, H.br, H.s.mono hm, H.c.mono hm, H.o.mono hm, H.t.mono hm⟩
def wideOf (loose : Bool) : Int := if loose then 9 else 1
def satOf (w : Int) (s : Int × Int) : Int × Int := (4 + w * (s.1 % 40), s.2 % 12)
def custOf (tight : Bool) (w : Int) (c : Int × Int × Int × Int) : Int × Int × Int × Int :=
  ((1 + c.1 % 6) + (if tight then c.1 / 32 else 0), c.2.1 % 50, c.2.1 % 50 + w * c.2.2.1, c.2.2.2 % 8)
def orElse {α : Type} (l : List α) (x : α) : List α := if l = [] then [x] else l
def makeX (x : SmV) (D : SmD) : XI :=
  let w := wideOf x.loose
  let sats := orElse ((D.sats.take 3).map (satOf w)) (60, 2)
  let custs := orElse ((D.custs.take 6).map (custOf x.tight w)) (2, 5, 90, 1)
  let n := 1 + sats.length + custs.length
  ⟨40 + x.e * w, 1 + x.t % 4, 5 + w * (x.tr % 40), 1 + x.b % 6, 3 + w * (x.br % 20), sats, custs, sqr D.cost n, sqr D.time n⟩

/-- What holds while it is made: the small numbers lie in the first block of ours, the result in the second, the instance in the third. -/
structure MInv (s0 : WS) (v : SmV) (y : IV) (s : WS) : Prop where
  g : Grew s0 s
  n : s0.n + 3 ≤ s.n
  p : SmIn s.h s0.n v
  r : ∃ c, s.h (s0.n + 1) = some ⟨c, 34, 9⟩ ∧ c.length = 9
  y : s.h (s0.n + 2) = some ⟨y.l, 34, 9⟩
theorem MInv.step {s0 s s' : WS} {v : SmV} {y : IV} (H : MInv s0 v y s) (hg : Grew s0 s') (hn : s.n ≤ s'.n) (h : ∀ x, s0.n ≤ x → x < s0.n + 3 → s'.h x = s.h x) : MInv s0 v y s' := by
  obtain ⟨e, st, hp⟩ := H.p
  obtain ⟨c, hr, hc⟩ := H.r
  exact ⟨hg, by have := H.n; omega, ⟨e, st, (h _ (by omega) (by omega)).trans hp⟩, ⟨c, (h _ (by omega) (by omega)).trans hr, hc⟩, (h _ (by omega) (by omega)).trans H.y⟩
theorem MInv.yIn {s0 s : WS} {v : SmV} {y : IV} (H : MInv s0 v y s) : InstIn s.h (s0.n + 2) y := ⟨_, _, H.y⟩
theorem flat_p : ∀ xs : List (Int × Int), (xs.flatMap i64p).length = xs.length * 2
  | [] => rfl
  | x :: xs => by rw [List.flatMap_cons, List.length_append, flat_p xs]; simp; omega
theorem flat_q : ∀ xs : List (Int × Int × Int × Int), (xs.flatMap i64q).length = xs.length * 4
  | [] => rfl
  | x :: xs => by rw [List.flatMap_cons, List.length_append, flat_q xs]; simp; omega
/-- The instance's satellites are set. -/
def IV.withS (y : IV) (a : Option Addr) (n c : Nat) : IV := { y with sa := a, sn := n, sc := c }
def IV.withC (y : IV) (a : Option Addr) (n c : Nat) : IV := { y with ca := a, cn := n, cc := c }
theorem ov5 (y : IV) (a : Option Addr) (n c : Nat) : ov y.l 5 [.slice a n c] = (y.withS a n c).l := rfl
theorem ov6 (y : IV) (a : Option Addr) (n c : Nat) : ov y.l 6 [.slice a n c] = (y.withC a n c).l := rfl
theorem tm_mod {n m : Int} (h : 0 ≤ n) : Int.tmod n m = n % m := Int.tmod_eq_emod_of_nonneg h
section
variable {E : Addr → Option Value} {s0 : WS} {Q : KV} {v : SmV} {D : SmD}
/-- What the satellites' slice is, on the way. -/
structure SInv (s0 : WS) (y : IV) (l : List (Int × Int)) (s : WS) : Prop where
  o : Own s.h (s0.n + 3) 37 2 y.sa y.sn y.sc (l.flatMap i64p)
  lt : ∀ b, y.sa = some (here b 0) → b < s.n
theorem sats_loop (hv : SmOk E s0.h s0.n v D) (y0 : IV) (hy : y0.sa = none ∧ y0.sn = 0 ∧ y0.sc = 0)
    (hK : ∀ a n c s', MInv s0 v (y0.withS a n c) s' → SInv s0 (y0.withS a n c) ((D.sats.take 3).map (satOf (wideOf v.loose))) s' → law11_Make.b3 E (here s0.n 0) (here (s0.n + 1) 0) (wideOf v.loose) (here (s0.n + 2) 0) s' Q) :
    ∀ (d k : Nat), v.sn - k = d → k ≤ v.sn → ∀ (a : Option Addr) (n c : Nat) (s : WS), MInv s0 v (y0.withS a n c) s → SInv s0 (y0.withS a n c) (((D.sats.take k).take 3).map (satOf (wideOf v.loose))) s →
      law11_Make.l1 E (here s0.n 0) (here (s0.n + 1) 0) (wideOf v.loose) (here (s0.n + 2) 0) v.sa v.sn v.sc v.sn k s Q := by
  have hw : wideOf v.loose = 9 ∨ wideOf v.loose = 1 := by unfold wideOf; cases v.loose <;> simp
  have hlen := hv.s.len
  have hsb := hv.sb
  intro d
  induction d with
  | zero =>
    intro k hd hk a n c s hi hs
    have : k = v.sn := by omega
    subst this
    refine law11_Make.l1_of E _ _ _ _ _ _ _ _ _ s Q ?_
    refine bif_of (fun e => absurd e (by simp)) fun _ => ?_
    rw [List.take_of_length_le (l := D.sats) (by omega)] at hs
    exact hK a n c s hi hs
  | succ d ih =>
    intro k hd hk a n c s hi hs
    have hlt : k < v.sn := by omega
    refine law11_Make.l1_of E _ _ _ _ _ _ _ _ _ s Q ?_
    refine bif_of (fun _ => ?_) fun e => absurd e (by simp; omega)
    refine law11_Make.b2_of E _ _ _ _ _ _ _ _ _ s Q ?_
    obtain ⟨x, hx⟩ : ∃ x, D.sats[k]? = some x := ⟨_, List.getElem?_eq_getElem (by omega)⟩
    obtain ⟨hu1, hu2⟩ := hv.us x (List.mem_of_getElem? hx)
    obtain ⟨ad, had, r0⟩ := hv.s.at hx (j := 0) (u := .int .u8 x.1) rfl
    obtain ⟨ad', had', r1⟩ := hv.s.at hx (j := 1) (u := .int .u8 x.2) rfl
    have : ad' = ad := by rw [had] at had'; injection had' with h; exact h.symm
    subst this
    have hold := hv.s.old ad' had
    have next : ∀ (a : Option Addr) (n c : Nat) (s : WS), MInv s0 v (y0.withS a n c) s → SInv s0 (y0.withS a n c) (((D.sats.take (k + 1)).take 3).map (satOf (wideOf v.loose))) s →
        law11_Make.b4 E (here s0.n 0) (here (s0.n + 1) 0) (wideOf v.loose) (here (s0.n + 2) 0) v.sa v.sn v.sc v.sn k s Q := fun a n c s h1 h2 => by
      refine law11_Make.b4_of E _ _ _ _ _ _ _ _ _ s Q ?_
      show law11_Make.l1 E _ _ _ _ _ _ _ _ (IntKind.wrap .i64 ((k : Int) + 1)) s Q
      rw [w64 (by omega) (by omega)]
      exact ih (k + 1) (by omega) (by omega) a n c s h1 h2
    have htake : D.sats.take (k + 1) = D.sats.take k ++ [x] := by
      rw [List.take_add_one, hx]; rfl
    refine ⟨by omega, by omega, ad', had, x.1, ?_, x.2, ?_, ?_⟩
    · rw [padd_padd, Int.toNat_natCast, rd_agree hi.g.h (hold.padd _)]; exact r0
    · rw [padd_padd, Int.toNat_natCast, rd_agree hi.g.h (hold.padd _)]; exact r1
    refine wnew_of fun s1 p1 p2 p3 => ?_
    have hsn := hi.n
    refine wstore_of (by rw [p2, upd_same]) (by simp) (by simp [one]) fun s2 q1 q2 q3 => ?_
    have e12 : ∀ x, x < s.n → s2.h x = s.h x := fun x hx => by rw [q2, upd_other _ _ _ _ (by omega), p2, upd_other _ _ _ _ (by omega)]
    have hg2 : Grew s0 s2 := (hi.g.trans p3).stored (by have := hi.g.n; omega) q1 q2 q3
    have hi2 : MInv s0 v (y0.withS a n c) s2 := hi.step hg2 (by omega) fun x _ hx => e12 x (by omega)
    have hs2 : Own s2.h (s0.n + 3) 37 2 a n c ((((D.sats.take k).take 3).map (satOf (wideOf v.loose))).flatMap i64p) := hs.o.agree fun b hb => e12 b (hs.lt b hb)
    have hblk : s2.h s.n = some ⟨u8p x, 73, 2⟩ := by rw [q2, upd_same]; rfl
    have hnn : n = (((D.sats.take k).take 3).map (satOf (wideOf v.loose))).length := by
      have := hs2.len; rw [flat_p] at this; omega
    have hlen3 : (((D.sats.take k).take 3).map (satOf (wideOf v.loose))).length = min 3 k := by
      rw [List.length_map, List.length_take, List.length_take]; omega
    simp only [hi2.yIn.r, IV.l5, ex_slc]
    show (bif decide (((n : Nat) : Int) < 3) then _ else _)
    refine bif_of (fun e => ?_) fun e => ?_
    · have hn3 : n < 3 := by have := of_decide_eq_true e; omega
      have hk3 : k < 3 := by omega
      simp only [padd_here, Nat.zero_add, rd_at hblk, List.getElem?_cons_zero, List.getElem?_cons_succ, ex_int]
      refine ⟨by omega, by omega, ?_⟩
      have c1 : IntKind.wrap .i64 ((4 : Int) + IntKind.wrap .i64 (wideOf v.loose * IntKind.wrap .i64 (Int.tmod x.1 40))) = (satOf (wideOf v.loose) x).1 := by
        rw [tm_mod hu1.1]
        have : 0 ≤ x.1 % 40 ∧ x.1 % 40 < 40 := by omega
        rcases hw with hw | hw <;> (rw [hw]; rw [w64 (n := x.1 % 40) (by omega) (by omega), w64 (n := _ * (x.1 % 40)) (by omega) (by omega), w64 (by omega) (by omega)]; simp [satOf])
      have c2 : IntKind.wrap .i64 (Int.tmod x.2 12) = (satOf (wideOf v.loose) x).2 := by
        rw [tm_mod hu2.1, w64 (by omega) (by omega)]; rfl
      rw [c1, c2]
      have hbb : (2 * (n + 1) + 1000) * 16 ≤ 281474976710656 := by omega
      refine app1 (N := s0.n + 3) hs2 (fun b hb => by have := hs.lt b hb; omega) (by omega) rfl (by omega) (by simp [one]) hbb fun s3 k1 k2 k3 k4 => ?_
      have hg3 : Grew s0 s3 := k3 s0 (by omega) hg2
      have ne : ∀ x, x < s0.n + 3 → ∀ b, a = some (here b 0) → x ≠ b := fun x hx b hb => by
        have h1 := hs.o
        rw [show (y0.withS a n c).sa = a from rfl, hb] at h1
        cases h1 with
        | blk _ h2 _ => omega
      have hi3 : MInv s0 v (y0.withS a n c) s3 := hi2.step hg3 (by omega) fun x _ hx => k4 x (by omega) (ne x hx)
      refine wstore_of hi3.y (by simp [IV.l]) (by simp [one]) fun s4 m1 m2 m3 => ?_
      refine next (some (here (s2.n + 1) 0)) (n + 1) (n + 1) s4 ?_ ⟨?_, fun b hb => ?_⟩
      · obtain ⟨e, st, hp⟩ := hi3.p
        obtain ⟨c', hr, hc'⟩ := hi3.r
        refine ⟨hg3.stored (by omega) m1 m2 m3, by omega, ⟨e, st, by rw [m2, upd_other _ _ _ _ (by omega)]; exact hp⟩, ⟨c', by rw [m2, upd_other _ _ _ _ (by omega)]; exact hr, hc'⟩, ?_⟩
        rw [m2, upd_same, ov5]
        rfl
      · have hl3 : ((D.sats.take (k + 1)).take 3).map (satOf (wideOf v.loose)) = ((D.sats.take k).take 3).map (satOf (wideOf v.loose)) ++ [satOf (wideOf v.loose) x] := by
          rw [List.take_of_length_le (l := D.sats.take (k + 1)) (by rw [List.length_take]; omega), List.take_of_length_le (l := D.sats.take k) (by rw [List.length_take]; omega), htake, List.map_append]
          rfl
        rw [hl3, List.flatMap_append]
        refine Own.agree (h := s3.h) k1 fun b hb => ?_
        injection hb with hb
        injection hb with hb
        rw [m2, upd_other _ _ _ _ (by omega)]
      · injection hb with hb
        injection hb with hb
        omega
    · have hn3 : ¬ n < 3 := by have := of_decide_eq_false e; omega
      refine next a n c s2 hi2 ⟨?_, fun b hb => by have := hs.lt b hb; omega⟩
      rw [htake, List.take_append_of_le_length (by rw [List.length_take]; omega)]
      exact hs2
end
end Go.Proofs.YtoimffkejoeadaaGreatDoor.Vm
/- What 'Make' (chapter 11's law) makes: the customers. -/
namespace Go.Proofs.YtoimffkejoeadaaGreatDoor.Vm
open Go
set_option linter.unusedVariables false
set_option linter.unusedSimpArgs false
set_option maxRecDepth 10000
theorem wu8 {n : Int} (h1 : 0 ≤ n) (h2 : n < 256) : IntKind.wrap .u8 n = n := by simp [IntKind.wrap, IntKind.bits, IntKind.signed]; omega
/-- What the two slices are, while the customers' grows. -/
structure CInv (s0 : WS) (N1 : Nat) (sats : List (Int × Int)) (y : IV) (l : List (Int × Int × Int × Int)) (s : WS) : Prop where
  o : Own s.h N1 39 4 y.ca y.cn y.cc (l.flatMap i64q)
  lt : ∀ b, y.ca = some (here b 0) → b < s.n
  so : Own s.h (s0.n + 3) 37 2 y.sa y.sn y.sc (sats.flatMap i64p)
  slt : ∀ b, y.sa = some (here b 0) → b < N1
  ge : s0.n + 3 ≤ N1
  le : N1 ≤ s.n
section
variable {E : Addr → Option Value} {s0 : WS} {Q : KV} {v : SmV} {D : SmD}
theorem custs_loop (hv : SmOk E s0.h s0.n v D) (N1 : Nat) (sats : List (Int × Int)) (y0 : IV)
    (hK : ∀ a n c s', MInv s0 v (y0.withC a n c) s' → CInv s0 N1 sats (y0.withC a n c) ((D.custs.take 6).map (custOf v.tight (wideOf v.loose))) s' → law11_Make.b8 E (here s0.n 0) (here (s0.n + 1) 0) (here (s0.n + 2) 0) s' Q) :
    ∀ (d k : Nat), v.cn - k = d → k ≤ v.cn → ∀ (a : Option Addr) (n c : Nat) (s : WS), MInv s0 v (y0.withC a n c) s → CInv s0 N1 sats (y0.withC a n c) (((D.custs.take k).take 6).map (custOf v.tight (wideOf v.loose))) s →
      law11_Make.l6 E (here s0.n 0) (here (s0.n + 1) 0) (wideOf v.loose) (here (s0.n + 2) 0) v.ca v.cn v.cc v.cn k s Q := by
  have hw : wideOf v.loose = 9 ∨ wideOf v.loose = 1 := by unfold wideOf; cases v.loose <;> simp
  have hlen := hv.c.len
  have hsb := hv.cb
  generalize hf : custOf v.tight (wideOf v.loose) = f at hK
  intro d
  induction d with
  | zero =>
    intro k hd hk a n c s hi hs
    have : k = v.cn := by omega
    subst this
    refine law11_Make.l6_of E _ _ _ _ _ _ _ _ _ s Q ?_
    refine bif_of (fun e => absurd e (by simp)) fun _ => ?_
    rw [List.take_of_length_le (l := D.custs) (by omega)] at hs
    exact hK a n c s hi hs
  | succ d ih =>
    intro k hd hk a n c s hi hs
    have hlt : k < v.cn := by omega
    refine law11_Make.l6_of E _ _ _ _ _ _ _ _ _ s Q ?_
    refine bif_of (fun _ => ?_) fun e => absurd e (by simp; omega)
    refine law11_Make.b7_of E _ _ _ _ _ _ _ _ _ s Q ?_
    obtain ⟨x, hx⟩ : ∃ x, D.custs[k]? = some x := ⟨_, List.getElem?_eq_getElem (by omega)⟩
    obtain ⟨hu1, hu2, hu3, hu4⟩ := hv.uc x (List.mem_of_getElem? hx)
    obtain ⟨ad, had⟩ := hv.c.some' (by intro e; rw [e] at hx; simp at hx)
    have hold := hv.c.old ad had
    have rr : ∀ (j : Nat) u, (u8q x)[j]? = some u → rd E s.h (padd (padd ad (Int.toNat (k : Int) * 4)) j) = some u := fun j u hu => by
      rw [padd_padd, Int.toNat_natCast, rd_agree hi.g.h (hold.padd _)]
      exact hv.c.cell ad had k x hx j u hu
    have next : ∀ (a : Option Addr) (n c : Nat) (s : WS), MInv s0 v (y0.withC a n c) s → CInv s0 N1 sats (y0.withC a n c) (((D.custs.take (k + 1)).take 6).map f) s →
        law11_Make.b10 E (here s0.n 0) (here (s0.n + 1) 0) (wideOf v.loose) (here (s0.n + 2) 0) v.ca v.cn v.cc v.cn k s Q := fun a n c s h1 h2 => by
      refine law11_Make.b10_of E _ _ _ _ _ _ _ _ _ s Q ?_
      show law11_Make.l6 E _ _ _ _ _ _ _ _ (IntKind.wrap .i64 ((k : Int) + 1)) s Q
      rw [w64 (by omega) (by omega)]
      exact ih (k + 1) (by omega) (by omega) a n c s h1 h2
    have htake : D.custs.take (k + 1) = D.custs.take k ++ [x] := by
      rw [List.take_add_one, hx]; rfl
    refine ⟨by omega, by omega, ad, had, x.1, rr 0 _ rfl, x.2.1, rr 1 _ rfl, x.2.2.1, rr 2 _ rfl, x.2.2.2, rr 3 _ rfl, ?_⟩
    refine wnew_of fun s1 p1 p2 p3 => ?_
    have hsn := hi.n
    have hge := hs.ge
    have hle := hs.le
    refine wstore_of (by rw [p2, upd_same]) (by simp) (by simp [one]) fun s2 q1 q2 q3 => ?_
    have e12 : ∀ x, x < s.n → s2.h x = s.h x := fun x hx => by rw [q2, upd_other _ _ _ _ (by omega), p2, upd_other _ _ _ _ (by omega)]
    have hg2 : Grew s0 s2 := (hi.g.trans p3).stored (by have := hi.g.n; omega) q1 q2 q3
    have hi2 : MInv s0 v (y0.withC a n c) s2 := hi.step hg2 (by omega) fun x _ hx => e12 x (by omega)
    have hs2 : Own s2.h N1 39 4 a n c ((((D.custs.take k).take 6).map f).flatMap i64q) := hs.o.agree fun b hb => e12 b (hs.lt b hb)
    have hso2 : Own s2.h (s0.n + 3) 37 2 y0.sa y0.sn y0.sc (sats.flatMap i64p) := hs.so.agree fun b hb => e12 b (by have := hs.slt b hb; omega)
    have hblk : s2.h s.n = some ⟨u8q x, 75, 4⟩ := by rw [q2, upd_same]; rfl
    have hnn : n = (((D.custs.take k).take 6).map f).length := by
      have := hs2.len; rw [flat_q] at this; omega
    have hlen3 : (((D.custs.take k).take 6).map f).length = min 6 k := by
      rw [List.length_map, List.length_take, List.length_take]; omega
    simp only [hi2.yIn.r, IV.l6, ex_slc]
    show (bif decide (((n : Nat) : Int) < 6) then _ else _)
    refine bif_of (fun e => ?_) fun e => ?_
    · have hn3 : n < 6 := by have := of_decide_eq_true e; omega
      have hk3 : k < 6 := by omega
      have rb : ∀ j, rd E s2.h (padd (here s.n 0) j) = (u8q x)[j]? := fun j => by rw [padd_here, rd_at hblk, Nat.zero_add]
      have last : law11_Make.b9 E (here s0.n 0) (here (s0.n + 1) 0) (wideOf v.loose) (here (s0.n + 2) 0) (here s.n 0) (f x).1 v.ca v.cn v.cc v.cn k s2 Q := by
        refine law11_Make.b9_of E _ _ _ _ _ _ _ _ _ _ _ s2 Q ?_
        simp only [law11_Make.SB9, rb, List.getElem?_cons_zero, List.getElem?_cons_succ, ex_int, hi2.yIn.r, IV.l6, ex_slc]
        refine ⟨by omega, by omega, ?_⟩
        have m50 : 0 ≤ x.2.1 % 50 ∧ x.2.1 % 50 < 50 := by omega
        have m8 : 0 ≤ x.2.2.2 % 8 ∧ x.2.2.2 % 8 < 8 := by omega
        have u3 := hu3.1
        have u3' := hu3.2
        have c2 : IntKind.wrap .i64 (Int.tmod x.2.1 50) = (f x).2.1 := by
          rw [tm_mod hu2.1, w64 (by omega) (by omega), ← hf]; rfl
        have c3 : IntKind.wrap .i64 ((f x).2.1 + IntKind.wrap .i64 (wideOf v.loose * IntKind.wrap .i64 x.2.2.1)) = (f x).2.2.1 := by
          rw [← hf]
          show IntKind.wrap .i64 (x.2.1 % 50 + IntKind.wrap .i64 (wideOf v.loose * IntKind.wrap .i64 x.2.2.1)) = x.2.1 % 50 + wideOf v.loose * x.2.2.1
          rcases hw with hw | hw <;> (rw [hw]; rw [w64 (n := x.2.2.1) (by omega) (by omega), w64 (n := _ * x.2.2.1) (by omega) (by omega), w64 (by omega) (by omega)])
        have c4 : IntKind.wrap .i64 (Int.tmod x.2.2.2 8) = (f x).2.2.2 := by
          rw [tm_mod hu4.1, w64 (by omega) (by omega), ← hf]; rfl
        rw [c2, c3, c4]
        have hbb : (2 * (n + 1) + 1000) * 32 ≤ 281474976710656 := by omega
        refine app1 (N := N1) hs2 (fun b hb => by have := hs.lt b hb; omega) (by omega) rfl (by omega) (by simp [one]) hbb fun s3 k1 k2 k3 k4 => ?_
        have hg3 : Grew s0 s3 := k3 s0 (by omega) hg2
        have ne : ∀ x, x < N1 → ∀ b, a = some (here b 0) → x ≠ b := fun x hx b hb => by have := hs2.ge b hb; omega
        have hi3 : MInv s0 v (y0.withC a n c) s3 := hi2.step hg3 (by omega) fun x _ hx => k4 x (by omega) (ne x (by omega))
        have hso3 : Own s3.h (s0.n + 3) 37 2 y0.sa y0.sn y0.sc (sats.flatMap i64p) := hso2.agree fun b hb => k4 b (by have := hs.slt b hb; omega) (ne b (hs.slt b hb))
        refine wstore_of hi3.y (by simp [IV.l]) (by simp [one]) fun s4 m1 m2 m3 => ?_
        refine next (some (here (s2.n + 1) 0)) (n + 1) (n + 1) s4 ?_ ⟨?_, fun b hb => ?_, ?_, hs.slt, hge, by omega⟩
        · obtain ⟨e, st, hp⟩ := hi3.p
          obtain ⟨c', hr, hc'⟩ := hi3.r
          refine ⟨hg3.stored (by omega) m1 m2 m3, by omega, ⟨e, st, by rw [m2, upd_other _ _ _ _ (by omega)]; exact hp⟩, ⟨c', by rw [m2, upd_other _ _ _ _ (by omega)]; exact hr, hc'⟩, ?_⟩
          rw [m2, upd_same, ov6]
          rfl
        · have hl3 : ((D.custs.take (k + 1)).take 6).map f = ((D.custs.take k).take 6).map f ++ [f x] := by
            rw [List.take_of_length_le (l := D.custs.take (k + 1)) (by rw [List.length_take]; omega), List.take_of_length_le (l := D.custs.take k) (by rw [List.length_take]; omega), htake, List.map_append]
            rfl
          rw [hl3, List.flatMap_append]
          refine Own.agree (h := s3.h) k1 fun b hb => ?_
          injection hb with hb
          injection hb with hb
          rw [m2, upd_other _ _ _ _ (by omega)]
        · injection hb with hb
          injection hb with hb
          omega
        · refine hso3.agree fun b hb => ?_
          have := hso3.ge b hb
          rw [m2, upd_other _ _ _ _ (by omega)]
      have m6 : 0 ≤ x.1 % 6 ∧ x.1 % 6 < 6 := by omega
      have u1 := hu1.1
      have u1' := hu1.2
      have c1 : IntKind.wrap .i64 (1 + IntKind.wrap .i64 (Int.tmod x.1 6)) = 1 + x.1 % 6 := by
        rw [tm_mod hu1.1, w64 (n := x.1 % 6) (by omega) (by omega), w64 (by omega) (by omega)]
      simp only [rb, List.getElem?_cons_zero, List.getElem?_cons_succ, ex_int, hi2.p.r, SmV.l9, ex_bool, c1]
      refine ⟨by omega, ?_⟩
      refine bif_of (fun e => ?_) fun e => ?_
      · refine ⟨by omega, ?_⟩
        have c5 : IntKind.wrap .i64 (1 + x.1 % 6 + IntKind.wrap .i64 (IntKind.wrap .u8 (Int.tdiv x.1 32))) = (f x).1 := by
          rw [Int.tdiv_eq_ediv_of_nonneg hu1.1, wu8 (by omega) (by omega), w64 (n := x.1 / 32) (by omega) (by omega), w64 (by omega) (by omega), ← hf]
          simp [custOf, e]
        rw [c5]
        exact last
      · have c5 : 1 + x.1 % 6 = (f x).1 := by
          rw [← hf]
          simp [custOf, e]
        rw [c5]
        exact last
    · have hn3 : ¬ n < 6 := by have := of_decide_eq_false e; omega
      refine next a n c s2 hi2 ⟨?_, fun b hb => by have := hs.lt b hb; omega, hso2, hs.slt, hge, by omega⟩
      rw [htake, List.take_append_of_le_length (by rw [List.length_take]; omega)]
      exact hs2
end
end Go.Proofs.YtoimffkejoeadaaGreatDoor.Vm
