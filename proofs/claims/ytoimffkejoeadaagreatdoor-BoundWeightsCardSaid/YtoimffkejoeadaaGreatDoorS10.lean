/- What a way costs at least: bound.Weight. -/
import Derived.Test.YtoimffkejoeadaaGreatDoorS9
import Derived.Test.YtoimffkejoeadaaGreatDoorS2
import Derived.Test.YtoimffkejoeadaaGreatDoorGf
namespace Go.Proofs.YtoimffkejoeadaaGreatDoor.Vm
open Go
set_option linter.unusedVariables false
set_option linter.unusedSimpArgs false
set_option maxRecDepth 10000
def costAt (X : XI) (i j : Nat) : Int := (X.cost.getD i []).getD j 0
def custN (X : XI) (c : Nat) : Nat := 1 + X.sats.length + c
/-- One more node is looked at. -/
def stp (X : XI) (c : Nat) (o : Int) (k : Nat) : Int := if costAt X (custN X k) (custN X c) < o then costAt X (custN X k) (custN X c) else o
/-- What the way to a customer costs at least. -/
def wt (X : XI) (l s c : Nat) : Int := ((List.range X.custs.length).filter fun k => l.testBit k && !(k == c)).foldl (stp X c) (costAt X (1 + s) (custN X c))
/-- What bound.Weight answers. -/
def bW (X : XI) (l : Nat) (s c : Int) : Int := if 0 ≤ s ∧ s < X.sats.length ∧ 0 ≤ c ∧ c < X.custs.length ∧ l < 2 ^ X.custs.length then wt X l s.toNat c.toNat else 0
theorem cost_get {X : XI} (G : GoodX X) {i j : Nat} (hi : i < 1 + X.sats.length + X.custs.length) (hj : j < 1 + X.sats.length + X.custs.length) :
    ∃ r, X.cost[i]? = some r ∧ r.length = 1 + X.sats.length + X.custs.length ∧ r[j]? = some (costAt X i j) := by
  have hi' : i < X.cost.length := by rw [G.o]; exact hi
  have hr : X.cost[i]? = some X.cost[i] := List.getElem?_eq_getElem hi'
  have hl := G.ow _ (List.getElem_mem hi')
  refine ⟨_, hr, hl, ?_⟩
  unfold costAt
  have e : X.cost.getD i [] = X.cost[i] := by rw [List.getD_eq_getElem?_getD, hr, Option.getD_some]
  rw [e, List.getD_eq_getElem?_getD, List.getElem?_eq_getElem (by omega), Option.getD_some]
theorem bits_range : ∀ l : Fin 64, ∀ n : Fin 7, l.val < 2 ^ n.val → bitsOf l.val = (List.range n.val).filter fun k => l.val.testBit k := by decide +kernel
theorem bits_lt (l : Nat) : ∀ k ∈ bitsOf l, k < 6 := fun k hk => by
  unfold bitsOf at hk
  have := (List.mem_filter.1 hk).1
  simpa using this
section
variable {E : Addr → Option Value} {s0 : WS} {Q : KV} {y : IV} {X : XI}
/-- A number in a matrix. -/
theorem Mat.num {h : Nat → Option PB} {N : Nat} {a : Option Addr} {m c : Nat} {L : List (List Int)} (H : Mat E h N a m c L) {i j : Nat} {r : List Int} {n : Int} (hr : L[i]? = some r) (hn : r[j]? = some n) :
    ∃ (ad : Addr) (v : Option Addr × Nat × Nat) (a2 : Addr), a = some ad ∧ Old N ad ∧ rd E h (padd ad i) = some (.slice v.1 v.2.1 v.2.2) ∧ v.1 = some a2 ∧ Old N a2 ∧ v.2.1 = r.length ∧ rd E h (padd a2 j) = some (.int .i64 n) := by
  obtain ⟨vs, h1, h2, h3⟩ := H
  obtain ⟨hi, _⟩ := List.getElem?_eq_some_iff.1 hr
  obtain ⟨v, hv⟩ : ∃ v, vs[i]? = some v := ⟨_, List.getElem?_eq_getElem (by omega)⟩
  obtain ⟨ad, had, hrd⟩ := h1.at hv (j := 0) (u := .slice v.1 v.2.1 v.2.2) rfl
  rw [Nat.mul_one, Nat.add_zero] at hrd
  have hs := h3 i v r hv hr
  obtain ⟨a2, ha2, hrd2⟩ := hs.at hn (j := 0) (u := .int .i64 n) rfl
  rw [Nat.mul_one, Nat.add_zero] at hrd2
  exact ⟨ad, v, a2, had, h1.old ad had, hrd, ha2, hs.old a2 ha2, hs.len, hrd2⟩
theorem bw_loop (H : InstOk E s0.h s0.n y X) (G : GoodX X) {b : Nat} (hy : InstIn s0.h b y) (hb : b < s0.n) {c : Nat} (hc : c < X.custs.length) {a : Option Addr} {n cc : Nat} {ks : List Nat} (hks : Slc E s0.h s0.n 1 n64s a n cc ks) (hk6 : ∀ k ∈ ks, k < X.custs.length)
    (hn : n ≤ 1000000) :
    ∀ (d k : Nat), n - k = d → k ≤ n → ∀ (o : Int) (s : WS), Grew s0 s → (∀ s', Grew s0 s' → Q (.int .i64 ((ks.drop k).foldl (stp X c) o)) s') → bound_Weight.l2 E (here b 0) (custN X c : Nat) o a n cc n k s Q := by
  have hlen := hks.len
  have hs := H.s.len
  have hcl := H.c.len
  have g2 := G.s2
  have g4 := G.c2
  have hon : y.on = X.cost.length := H.o.len
  have hco := G.o
  intro d
  induction d with
  | zero =>
    intro k hd hk o s hg hK
    refine bound_Weight.l2_of E _ _ _ _ _ _ _ _ s Q ?_
    refine bif_of (fun e => absurd e (by simp; omega)) fun _ => ?_
    refine bound_Weight.b4_of E _ s Q ?_
    have := hK s hg
    rw [List.drop_of_length_le (by omega)] at this
    exact this
  | succ d ih =>
    intro k hd hk o s hg hK
    refine bound_Weight.l2_of E _ _ _ _ _ _ _ _ s Q ?_
    refine bif_of (fun _ => ?_) fun e => absurd e (by simp; omega)
    refine bound_Weight.b3_of E _ _ _ _ _ _ _ _ s Q ?_
    obtain ⟨q, hq⟩ : ∃ q, ks[k]? = some q := ⟨_, List.getElem?_eq_getElem (by omega)⟩
    have hql := hk6 q (List.mem_of_getElem? hq)
    obtain ⟨ad, had, hrd⟩ := (hks.agree hg.h).at hq (j := 0) (u := .int .i64 q) rfl
    refine ⟨by omega, by omega, ad, had, q, by rw [Int.toNat_natCast]; exact hrd, ?_⟩
    have ys := hy.agree hg.h hb
    have hng := hg.n
    simp only [z_h, ys.r, IV.l0, IV.l1, IV.l2, IV.l3, IV.l4, IV.l5, IV.l6, IV.l7, IV.l8, ex_slc, ex_int]
    refine Customer_ok (s := s.z) y q (by omega) (by omega) fun s14 g14 => ⟨_, rfl, apart_addr g14 (by rw [padd_here]; exact Old.here (by omega)), fun s16 e16 => ?_⟩
    have G16 : Grew s s16 := by rw [e16]; exact Grew.z s g14
    have hnn : ((1 : Int) + (y.sn : Int) + (q : Int)) = ((custN X q : Nat) : Int) := by unfold custN; omega
    rw [hnn]
    have g16 := hg.trans G16
    have hqn : custN X q < 1 + X.sats.length + X.custs.length := by unfold custN; omega
    have hcn : custN X c < 1 + X.sats.length + X.custs.length := by unfold custN; omega
    obtain ⟨r, hr, hrl, hrn⟩ := cost_get G hqn hcn
    obtain ⟨a1, v, a2, e1, _, e2, e3, _, e4, e5⟩ := (H.o.agree g16.h).num hr hrn
    refine ⟨by omega, by omega, a1, e1, v.1, v.2.1, v.2.2, by rw [Int.toNat_natCast, Nat.mul_one]; exact e2, by omega, by omega, a2, e3, _, by rw [Int.toNat_natCast, Nat.mul_one]; exact e5, fun s21 e21 => ?_⟩
    have G21 : Grew s16 s21 := by rw [e21]; exact Grew.z s16 (Grew.refl _)
    rw [w64 (n := (k : Int) + 1) (by omega) (by omega)]
    refine ih (k + 1) (by omega) (by omega) _ s21 (g16.trans G21) fun s' hg' => ?_
    have := hK s' hg'
    rw [List.drop_eq_getElem_cons (i := k) (by omega), List.foldl_cons] at this
    have hqe : ks[k] = q := by
      have := hq
      rw [List.getElem?_eq_getElem (by omega)] at this
      injection this
    rw [hqe] at this
    exact this
theorem bw_b1 (hE : TabIn E) (H : InstOk E s0.h s0.n y X) (G : GoodX X) (hC6 : X.custs.length ≤ 6) {b : Nat} (hy : InstIn s0.h b y) (hb : b < s0.n) {l s c : Nat} (hs' : s < X.sats.length) (hc : c < X.custs.length) (hl : l < 2 ^ X.custs.length)
    (h : ∀ s', Grew s0 s' → Q (.int .i64 (wt X l s c)) s') : bound_Weight.b1 E l s c (here b 0) s0 Q := by
  have hs := H.s.len
  have hcl := H.c.len
  have g2 := G.s2
  have hon : y.on = X.cost.length := H.o.len
  have hco := G.o
  refine bound_Weight.b1_of E _ _ _ _ s0 Q ?_
  simp only [bound_Weight.SB1, hy.r, IV.l0, IV.l1, IV.l2, IV.l3, IV.l4, IV.l5, IV.l6, IV.l7, IV.l8, ex_slc, ex_int]
  refine Customer_ok (s := s0) y c (by omega) (by omega) fun s11 g11 => ⟨_, rfl, ?_⟩
  have y11 := hy.agree g11.h hb
  have n11 := g11.n
  simp only [z_h, y11.r, IV.l0, IV.l1, IV.l2, IV.l3, IV.l4, IV.l5, IV.l6, IV.l7, IV.l8, ex_slc, ex_int]
  have hnc : ((1 : Int) + (y.sn : Int) + (c : Int)) = ((custN X c : Nat) : Int) := by unfold custN; omega
  rw [hnc]
  refine Sat_ok (s := s11.z) y s (by omega) fun s24 g24 => ⟨_, rfl, apart_addr g24 (by rw [padd_here]; exact Old.here (by omega)), fun s26 e26 => ?_⟩
  have G26 : Grew s11 s26 := by rw [e26]; exact Grew.z s11 g24
  have hns : ((1 : Int) + (s : Int)) = ((1 + s : Nat) : Int) := by omega
  rw [hns]
  have g26 := g11.trans G26
  have hcn : custN X c < 1 + X.sats.length + X.custs.length := by unfold custN; omega
  obtain ⟨r, hr, hrl, hrn⟩ := cost_get G (i := 1 + s) (by omega) hcn
  obtain ⟨a1, v, a2, e1, _, e2, e3, _, e4, e5⟩ := (H.o.agree g26.h).num hr hrn
  refine ⟨by omega, by omega, a1, e1, v.1, v.2.1, v.2.2, by rw [Int.toNat_natCast, Nat.mul_one]; exact e2, by omega, by omega, a2, e3, _, by rw [Int.toNat_natCast, Nat.mul_one]; exact e5, ?_⟩
  have hl6 : l < 64 := Nat.lt_of_lt_of_le hl (show 2 ^ X.custs.length ≤ 2 ^ 6 from Nat.pow_le_pow_right (by omega) hC6)
  obtain ⟨_, hd6, hdb⟩ := drop_all ⟨l, hl6⟩ ⟨c, by omega⟩
  have hbl := bits_range ⟨l, hl6⟩ ⟨X.custs.length, by omega⟩ hl
  simp only at hd6 hdb hbl
  refine Without_ok l c hl6 (by omega) ⟨_, rfl, ?_⟩
  refine All_ok hE (drop1 l c) hd6 fun a n cc s35 hks g35 => ⟨a, n, cc, rfl, ?_⟩
  have g0 := g26.trans g35
  have n0 := g0.n
  have hnl := hks.len
  have hlt : ∀ k ∈ bitsOf (drop1 l c), k < X.custs.length := fun k hk => by
    rw [hdb, hbl] at hk
    have := (List.mem_filter.1 (List.mem_filter.1 hk).1).1
    simpa using this
  have hn6 : (bitsOf (drop1 l c)).length ≤ 1000000 := by
    unfold bitsOf
    exact Nat.le_trans (List.length_filter_le _ _) (by simp)
  refine bw_loop ((H.agree g0.h).mono g0.n) G (hy.agree g0.h hb) (by omega) hc hks hlt (by omega) (n - 0) 0 rfl (by omega) _ s35 (Grew.refl _) fun s' g' => ?_
  have := h s' (g0.trans g')
  rw [List.drop_zero, hdb, hbl, List.filter_filter]
  unfold wt at this
  have hf : ((List.range X.custs.length).filter fun k => (!(k == c)) && l.testBit k) = (List.range X.custs.length).filter fun k => l.testBit k && !(k == c) := by
    congr 1
    funext k
    exact Bool.and_comm _ _
  rw [hf]
  exact this
theorem bWeight_ok (hE : TabIn E) (H : InstOk E s0.h s0.n y X) (G : GoodX X) (hC6 : X.custs.length ≤ 6) {l : Nat} (hl : l < 256) (s c : Int) (h : ∀ s', Grew s0 s' → Q (.int .i64 (bW X l s c)) s') : call E 18 [y.v, .int .u64 (l : Int), .int .i64 s, .int .i64 c] s0 Q := by
  have hs := H.s.len
  have hcl := H.c.len
  refine bound_Weight.of E _ _ _ _ _ _ _ _ _ _ _ _ _ _ _ _ _ _ _ _ s0 Q ?_
  refine inst_new (x := y) fun s1 p1 p2 p3 => ?_
  simp only [bound_Weight.S0, p3.r, IV.l0, IV.l1, IV.l2, IV.l3, IV.l4, IV.l5, IV.l6, IV.l7, IV.l8, ex_slc, ex_int]
  refine Check_ok ((H.agree p2.h).mono p2.n) G fun s13 g13 => ⟨_, rfl, ?_⟩
  have y13 := p3.agree g13.h (by omega)
  have n13 := g13.n
  have g0 := p2.trans g13
  refine bif_of (fun e => absurd e (by simp)) fun _ => ?_
  have zero : ∀ s', Grew s0 s' → ¬ (0 ≤ s ∧ s < X.sats.length ∧ 0 ≤ c ∧ c < X.custs.length ∧ l < 2 ^ X.custs.length) → bound_Weight.b0 E l s c (here s0.n 0) true s' Q := fun s' g' hn => by
    refine bound_Weight.b0_of E _ _ _ _ _ s' Q ?_
    refine bif_of (fun _ => ?_) fun e => absurd e (by simp)
    have := h s' g'
    rw [bW, if_neg hn] at this
    exact this
  refine bif_of (fun e => zero _ g0 fun hh => ?_) fun e1 => ?_
  · have := of_decide_eq_true e; omega
  simp only [y13.r, IV.l5, IV.l6, ex_slc]
  refine bif_of (fun e => zero _ g0 fun hh => ?_) fun e2 => ?_
  · have := of_decide_eq_true e; omega
  refine bif_of (fun e => zero _ g0 fun hh => ?_) fun e3 => ?_
  · have := of_decide_eq_true e; omega
  refine bif_of (fun e => zero _ g0 fun hh => ?_) fun e4 => ?_
  · have := of_decide_eq_true e; omega
  have e1 := of_decide_eq_false e1
  have e2 := of_decide_eq_false e2
  have e3 := of_decide_eq_false e3
  have e4 := of_decide_eq_false e4
  refine ⟨by omega, Less_ok _ _ ⟨_, rfl, ?_⟩⟩
  have hless := less_all ⟨l, hl⟩ ⟨y.cn, by omega⟩
  simp only at hless
  rw [hless]
  refine bound_Weight.b0_of E _ _ _ _ _ s13 Q ?_
  refine bif_of (fun e => ?_) fun e => ?_
  · have e := of_decide_eq_true e
    rw [hcl] at e
    have := h s13 g0
    rw [bW, if_neg (by omega)] at this
    exact this
  · have e := of_decide_eq_false e
    rw [hcl] at e
    obtain ⟨sN, rfl⟩ := Int.eq_ofNat_of_zero_le (show 0 ≤ s by omega)
    obtain ⟨cN, rfl⟩ := Int.eq_ofNat_of_zero_le (show 0 ≤ c by omega)
    refine bw_b1 hE ((H.agree g0.h).mono g0.n) G hC6 y13 (by omega) (by omega) (by omega) (by omega) fun s' g' => ?_
    have := h s' (g0.trans g')
    rw [bW, if_pos ⟨by omega, by omega, by omega, by omega, by omega⟩] at this
    exact this
end
end Go.Proofs.YtoimffkejoeadaaGreatDoor.Vm
