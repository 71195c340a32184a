/- What a way costs at least: chapter 16's law's Weight. -/
import Derived.Test.YtoimffkejoeadaaGreatDoorS10
import Derived.Test.YtoimffkejoeadaaGreatDoorGg
import Derived.Test.YtoimffkejoeadaaGreatDoorGe
namespace Go.Proofs.YtoimffkejoeadaaGreatDoor.Vm
open Go
set_option linter.unusedVariables false
set_option linter.unusedSimpArgs false
set_option maxRecDepth 10000
abbrev bools (b : Bool) : List Value := [.bool b]
/-- Which customers are in a set, one by one. -/
def rowB (l n : Nat) : List Bool := (List.range n).map fun k => l.testBit k
/-- A step, if the customer is in the set, and another one. -/
def stq (X : XI) (l c : Nat) (o : Int) (k : Nat) : Int := if (l.testBit k && !(k == c)) = true then stp X c o k else o
theorem wt_eq (X : XI) (l s c : Nat) : wt X l s c = (List.range X.custs.length).foldl (stq X l c) (costAt X (1 + s) (custN X c)) := by
  unfold wt
  rw [List.foldl_filter]
  rfl
section
variable {E : Addr → Option Value} {s0 : WS} {Q : KV} {y : IV} {X : XI}
theorem lw_loop (H : InstOk E s0.h s0.n y X) (G : GoodX X) {b : Nat} (hy : InstIn s0.h b y) (hb : b < s0.n) {l c : Nat} (hc : c < X.custs.length) {a : Option Addr} {n cc : Nat} (hks : Slc E s0.h s0.n 1 bools a n cc (rowB l X.custs.length)) :
    ∀ (d k : Nat), n - k = d → k ≤ n → ∀ (o : Int) (s : WS), Grew s0 s → (∀ s', Grew s0 s' → Q (.int .i64 (((List.range X.custs.length).drop k).foldl (stq X l c) o)) s') → law16_Weight.l0 E c (here b 0) o a n cc n k s Q := by
  have hlen := hks.len
  have hs := H.s.len
  have hcl := H.c.len
  have g2 := G.s2
  have g4 := G.c2
  have hon : y.on = X.cost.length := H.o.len
  have hco := G.o
  have hrl : (rowB l X.custs.length).length = X.custs.length := by simp [rowB]
  intro d
  induction d with
  | zero =>
    intro k hd hk o s hg hK
    refine law16_Weight.l0_of E _ _ _ _ _ _ _ _ s Q ?_
    refine bif_of (fun e => absurd e (by simp; omega)) fun _ => ?_
    refine law16_Weight.b2_of E _ s Q ?_
    have := hK s hg
    rw [List.drop_of_length_le (by simp; omega)] at this
    exact this
  | succ d ih =>
    intro k hd hk o s hg hK
    refine law16_Weight.l0_of E _ _ _ _ _ _ _ _ s Q ?_
    refine bif_of (fun _ => ?_) fun e => absurd e (by simp; omega)
    refine law16_Weight.b1_of E _ _ _ _ _ _ _ _ s Q ?_
    have hkC : k < X.custs.length := by omega
    have hq : (rowB l X.custs.length)[k]? = some (l.testBit k) := by simp [rowB, hkC]
    obtain ⟨ad, had, hrd⟩ := (hks.agree hg.h).at hq (j := 0) (u := .bool (l.testBit k)) rfl
    refine ⟨by omega, by omega, ad, had, l.testBit k, by rw [Int.toNat_natCast]; exact hrd, ?_⟩
    have fold : ∀ o, ((List.range X.custs.length).drop k).foldl (stq X l c) o = ((List.range X.custs.length).drop (k + 1)).foldl (stq X l c) (stq X l c o k) := fun o => by
      rw [List.drop_eq_getElem_cons (i := k) (by simp; exact hkC), List.foldl_cons, List.getElem_range]
    have next : ∀ s', Grew s0 s' → law16_Weight.b4 E c (here b 0) (stq X l c o k) a n cc n k s' Q := fun s' g' => by
      refine law16_Weight.b4_of E _ _ _ _ _ _ _ _ s' Q ?_
      show law16_Weight.l0 E _ _ _ _ _ _ _ (IntKind.wrap .i64 ((k : Int) + 1)) s' Q
      rw [w64 (by omega) (by omega)]
      refine ih (k + 1) (by omega) (by omega) _ s' g' fun s'' g'' => ?_
      rw [← fold]
      exact hK s'' g''
    have skip : ¬ (l.testBit k && !(k == c)) = true → law16_Weight.b3 E c (here b 0) o k a n cc n k false s Q := fun hn => by
      refine law16_Weight.b3_of E _ _ _ _ _ _ _ _ _ _ s Q ?_
      refine bif_of (fun e => absurd e (by simp)) fun _ => ?_
      have := next s hg
      unfold stq at this
      rw [if_neg hn] at this
      exact this
    refine bif_of (fun e1 => ?_) fun e1 => skip (by rw [e1]; simp)
    have hkc : (((k : Int)) != (c : Int)) = !(k == c) := by
      by_cases hkc : k = c
      · subst hkc; simp
      · have h2 : (k : Int) ≠ (c : Int) := by omega
        rw [bne_iff_ne.2 h2, beq_false_of_ne hkc]
        rfl
    rw [hkc]
    cases e2 : (k == c) with
    | true => exact skip (by rw [e2]; simp)
    | false =>
      refine law16_Weight.b3_of E _ _ _ _ _ _ _ _ _ _ s Q ?_
      refine bif_of (fun _ => ?_) fun e => absurd e (by simp)
      have ys := hy.agree hg.h hb
      have hng := hg.n
      simp only [z_h, ys.r, IV.l0, IV.l1, IV.l2, IV.l3, IV.l4, IV.l5, IV.l6, IV.l7, IV.l8, ex_slc, ex_int]
      refine At_ok (s := s.z) y k (by omega) (by omega) fun s12 g12 => ⟨_, rfl, apart_addr g12 (by rw [padd_here]; exact Old.here (by omega)), fun s14 e14 => ?_⟩
      have G14 : Grew s s14 := by rw [e14]; exact Grew.z s g12
      have hnk : ((1 : Int) + (y.sn : Int) + (k : Int)) = ((custN X k : Nat) : Int) := by unfold custN; omega
      rw [hnk]
      have g14 := hg.trans G14
      have n14 := g14.n
      have hkn : custN X k < 1 + X.sats.length + X.custs.length := by unfold custN; omega
      have hcn : custN X c < 1 + X.sats.length + X.custs.length := by unfold custN; omega
      obtain ⟨r, hr, hrl, hrn⟩ := cost_get G hkn hcn
      obtain ⟨a1, v, a2, q1, q1', q2, q3, q3', q4, q5⟩ := (H.o.agree g14.h).num hr hrn
      refine ⟨by omega, by omega, a1, q1, v.1, v.2.1, v.2.2, by rw [Int.toNat_natCast, Nat.mul_one]; exact q2, ?_⟩
      have y14 := hy.agree g14.h hb
      simp only [z_h, y14.r, IV.l0, IV.l1, IV.l2, IV.l3, IV.l4, IV.l5, IV.l6, IV.l7, IV.l8, ex_slc, ex_int]
      refine ⟨apart_addr' g12 (Old.here (by omega)), ?_⟩
      refine At_ok (s := s14.z) y c (by omega) (by omega) fun s27 g27 => ⟨_, rfl, apart_addr g27 ((q1'.padd _).mono n14), apart_addr g27 (by rw [padd_here]; exact Old.here (by omega)), fun s29 e29 => ?_⟩
      have G29 : Grew s14 s29 := by rw [e29]; exact Grew.z s14 g27
      have hnc : ((1 : Int) + (y.sn : Int) + (c : Int)) = ((custN X c : Nat) : Int) := by unfold custN; omega
      rw [hnc]
      have g29 := g14.trans G29
      refine ⟨by omega, by omega, a2, q3, _, by rw [Int.toNat_natCast, Nat.mul_one, rd_agree G29.h ((q3'.padd _).mono n14)]; exact q5, fun s32 e32 => ?_⟩
      have G32 : Grew s29 s32 := by rw [e32]; exact Grew.z s29 (Grew.refl _)
      have := next s32 (g29.trans G32)
      unfold stq at this
      rw [if_pos (by rw [e1, e2]; rfl)] at this
      exact this
theorem lWeight_ok (H : InstOk E s0.h s0.n y X) (G : GoodX X) {l s c : Nat} (hs' : s < X.sats.length) (hc : c < X.custs.length) {a : Option Addr} {n cc : Nat} (hks : Slc E s0.h s0.n 1 bools a n cc (rowB l X.custs.length))
    (h : ∀ s', Grew s0 s' → Q (.int .i64 (wt X l s c)) s') : call E 19 [y.v, .slice a n cc, .int .i64 (s : Int), .int .i64 (c : Int)] s0 Q := by
  have hs := H.s.len
  have hcl := H.c.len
  have g2 := G.s2
  have g4 := G.c2
  have hon : y.on = X.cost.length := H.o.len
  have hco := G.o
  refine law16_Weight.of E _ _ _ _ _ _ _ _ _ _ _ _ _ _ _ _ _ _ _ _ _ _ s0 Q ?_
  refine inst_new (x := y) fun s2 p1 p2 p3 => ?_
  simp only [law16_Weight.S0, z_h, p3.r, IV.l0, IV.l1, IV.l2, IV.l3, IV.l4, IV.l5, IV.l6, IV.l7, IV.l8, ex_slc, ex_int]
  have hns : IntKind.wrap .i64 ((1 : Int) + (s : Int)) = ((1 + s : Nat) : Int) := by rw [w64 (by omega) (by omega)]; omega
  rw [hns]
  have hcn : custN X c < 1 + X.sats.length + X.custs.length := by unfold custN; omega
  obtain ⟨r, hr, hrl, hrn⟩ := cost_get G (i := 1 + s) (by omega) hcn
  have H2 := (H.agree p2.h).mono p2.n
  obtain ⟨a1, v, a2, q1, q1', q2, q3, q3', q4, q5⟩ := H2.o.num hr hrn
  refine ⟨by omega, by omega, a1, q1, v.1, v.2.1, v.2.2, by rw [Int.toNat_natCast, Nat.mul_one]; exact q2, ?_⟩
  refine At_ok (s := s2.z) y c (by omega) (by omega) fun s16 g16 => ⟨_, rfl, apart_addr g16 (q1'.padd _), apart_addr g16 (by rw [padd_here]; exact Old.here (by omega)), fun s18 e18 => ?_⟩
  have G18 : Grew s2 s18 := by rw [e18]; exact Grew.z s2 g16
  have hnc : ((1 : Int) + (y.sn : Int) + (c : Int)) = ((custN X c : Nat) : Int) := by unfold custN; omega
  rw [hnc]
  have g18 := p2.trans G18
  have n18 := G18.n
  refine ⟨by omega, by omega, a2, q3, _, by rw [Int.toNat_natCast, Nat.mul_one, rd_agree G18.h (q3'.padd _)]; exact q5, ?_⟩
  refine lw_loop ((H.agree g18.h).mono g18.n) G (p3.agree G18.h (by omega)) (by omega) hc ((hks.agree g18.h).mono g18.n) (n - 0) 0 rfl (by omega) _ s18 (Grew.refl _) fun s' g' => ?_
  have := h s' (g18.trans g')
  rw [wt_eq] at this
  exact this
end
end Go.Proofs.YtoimffkejoeadaaGreatDoor.Vm
/- The first law that is proved here: BoundWeights. -/
namespace Go.Proofs.YtoimffkejoeadaaGreatDoor.Vm
open Go
set_option linter.unusedVariables false
set_option linter.unusedSimpArgs false
set_option maxRecDepth 10000
theorem wu8s {n : Int} (h1 : -128 ≤ n) (h2 : n < 128) : IntKind.wrap .i64 n = n := w64 (by omega) (by omega)
theorem bit_all : ∀ l : Fin 256, ∀ k : Fin 8, (ibits .and .u8 (Int.fdiv (l.val : Int) (2 ^ (min (Int.toNat (k.val : Int)) 8))) (1 : Int) == (1 : Int)) = l.val.testBit k.val := by decide +kernel
theorem shift_all : ∀ l : Fin 256, ∀ n : Fin 7, (Int.fdiv (IntKind.wrap .i64 (l.val : Int)) (2 ^ (min (Int.toNat (n.val : Int)) 64)) != (0 : Int)) = decide (2 ^ n.val ≤ l.val) := by decide +kernel
/-- The row of marks, so far. -/
def rowK (l n k : Nat) : List Value := (List.range n).map fun j => .bool (decide (j < k) && l.testBit j)
theorem rowK_zero (l n : Nat) : rowK l n 0 = List.replicate n (.bool false) := by
  unfold rowK
  apply List.ext_getElem
  · simp
  · intro i h1 h2
    simp
theorem rowK_full (l n : Nat) : rowK l n n = (rowB l n).flatMap bools := by
  unfold rowK rowB
  rw [List.flatMap_map]
  have : ∀ m : Nat, m ≤ n → (List.range m).map (fun j => Value.bool (decide (j < n) && l.testBit j)) = (List.range m).flatMap fun j => bools (l.testBit j) := by
    intro m
    induction m with
    | zero => intro _; rfl
    | succ m ih =>
      intro hm
      rw [List.range_succ, List.map_append, List.flatMap_append, ih (by omega)]
      have : decide (m < n) = true := decide_eq_true (by omega)
      simp [this]
  exact this n (Nat.le_refl n)
theorem rowK_get (l n k i : Nat) : (rowK l n k)[i]? = if i < n then some (.bool (decide (i < k) && l.testBit i)) else none := by
  unfold rowK
  rw [List.getElem?_map]
  split
  · next h => rw [List.getElem?_range h]; rfl
  · next h => rw [List.getElem?_eq_none (by simp; omega)]; rfl
theorem rowK_step (l n k : Nat) (hk : k < n) : ov (rowK l n k) k [.bool (l.testBit k)] = rowK l n (k + 1) := by
  show (rowK l n k).take k ++ [Value.bool (l.testBit k)] ++ (rowK l n k).drop (k + 1) = rowK l n (k + 1)
  apply List.ext_getElem?
  intro i
  have hlen : (rowK l n k).length = n := by simp [rowK]
  by_cases h1 : i < k
  · rw [List.append_assoc, List.getElem?_append_left (by rw [List.length_take]; omega), List.getElem?_take_of_lt h1]
    have h3 : i < k + 1 := by omega
    simp [rowK_get, h1, h3]
  · by_cases h2 : i = k
    · subst h2
      rw [List.append_assoc, List.getElem?_append_right (by rw [List.length_take]; omega)]
      have : i - ((rowK l n i).take i).length = 0 := by rw [List.length_take]; omega
      rw [this]
      simp [rowK_get, hk]
    · rw [List.getElem?_append_right (by simp [hlen]; omega), List.getElem?_drop]
      have : k + 1 + (i - (List.take k (rowK l n k) ++ [Value.bool (l.testBit k)]).length) = i := by simp [hlen]; omega
      rw [this]
      have h3 : ¬ i < k + 1 := by omega
      simp [rowK_get, h1, h3]
section
variable {E : Addr → Option Value} {s0 : WS} {Q : KV} {y : IV} {X : XI}
theorem wb5 (H : InstOk E s0.h s0.n y X) (G : GoodX X) {b l s c : Nat} {r : Int} (hy : InstIn s0.h b y) (hb : b < s0.n) (hs' : s < X.sats.length) (hs7 : s < 128) (hc : c < X.custs.length) (hc7 : c < 128) {a : Option Addr} {n cc : Nat} (hks : Slc E s0.h s0.n 1 bools a n cc (rowB l X.custs.length))
    (h : ∀ s', Grew s0 s' → Q (.bool (r == wt X l s c)) s') : law16_BoundWeights.b5 E s c (here b 0) r a n cc s0 Q := by
  refine law16_BoundWeights.b5_of E _ _ _ _ _ _ _ s0 Q ?_
  simp only [law16_BoundWeights.SB5, hy.r, IV.l0, IV.l1, IV.l2, IV.l3, IV.l4, IV.l5, IV.l6, IV.l7, IV.l8, ex_slc, ex_int]
  rw [wu8s (n := (s : Int)) (by omega) (by omega), wu8s (n := (c : Int)) (by omega) (by omega)]
  exact lWeight_ok H G hs' hc hks fun s' g' => ⟨_, rfl, h s' g'⟩
theorem wl3 (H : InstOk E s0.h s0.n y X) (G : GoodX X) (hC6 : X.custs.length ≤ 6) {b l s c : Nat} {r : Int} (hl : l < 256) (hy : InstIn s0.h b y) (hb : b < s0.n) (hs' : s < X.sats.length) (hs7 : s < 128) (hc : c < X.custs.length) (hc7 : c < 128)
    (h : ∀ s', Grew s0 s' → Q (.bool (r == wt X l s c)) s') : ∀ (d k : Nat), X.custs.length - k = d → k ≤ X.custs.length → ∀ (rb : Nat) (s1 : WS), Grew s0 s1 → s0.n ≤ rb → rb < s1.n → s1.h rb = some ⟨rowK l X.custs.length k, 4, 1⟩ →
      law16_BoundWeights.l3 E l s c (here b 0) r (some (here rb 0)) X.custs.length X.custs.length X.custs.length k s1 Q := by
  intro d
  induction d with
  | zero =>
    intro k hd hk rb s1 hg h1 h2 h3
    refine law16_BoundWeights.l3_of E _ _ _ _ _ _ _ _ _ _ s1 Q ?_
    refine bif_of (fun e => absurd e (by simp; omega)) fun _ => ?_
    have hkc : k = X.custs.length := by omega
    subst hkc
    rw [rowK_full] at h3
    refine wb5 ((H.agree hg.h).mono hg.n) G (hy.agree hg.h hb) (by have := hg.n; omega) hs' hs7 hc hc7 ?_ fun s' g' => h s' (hg.trans g')
    have hf : ∀ xs : List Bool, (xs.flatMap bools).length = xs.length := fun xs => by
      induction xs with
      | nil => rfl
      | cons x xs ih => rw [List.flatMap_cons, List.length_append, ih]; simp; omega
    exact Own.slc (N := s0.n) (e := 4) (.blk h3 h1 (by rw [hf]; simp [rowB])) (fun _ _ => rfl) (by omega) fun b hb => by
      injection hb with hb
      injection hb with hb
      omega
  | succ d ih =>
    intro k hd hk rb s1 hg h1 h2 h3
    refine law16_BoundWeights.l3_of E _ _ _ _ _ _ _ _ _ _ s1 Q ?_
    refine bif_of (fun _ => ?_) fun e => absurd e (by simp; omega)
    refine law16_BoundWeights.b4_of E _ _ _ _ _ _ _ _ _ _ s1 Q ?_
    have hb8 := bit_all ⟨l, hl⟩ ⟨k, by omega⟩
    simp only at hb8
    refine ⟨by omega, by omega, by omega, _, rfl, ?_⟩
    rw [hb8, padd_here, Int.toNat_natCast, Nat.mul_one, Nat.zero_add]
    refine wstore_of h3 (by simp [rowK]; omega) (by simp [one]) fun s2 m1 m2 m3 => ?_
    rw [w64 (n := (k : Int) + 1) (by omega) (by omega)]
    refine ih (k + 1) (by omega) (by omega) rb s2 (hg.stored h1 m1 m2 m3) h1 (by omega) ?_
    rw [m2, upd_same, rowK_step _ _ _ (by omega)]
theorem law_ok (hE : TabIn E) {v : SmV} {D : SmD} (hv : SmOk E s0.h s0.n v D) {l : Nat} (hl : l < 256) {s c : Int} (hs7 : -128 ≤ s ∧ s < 128) (hc7 : -128 ≤ c ∧ c < 128) (h : ∀ s', Q (.bool true) s') :
    call E 6 [v.v, .int .u8 (l : Int), .int .i8 s, .int .i8 c] s0 Q := by
  refine law16_BoundWeights.of E _ _ _ _ _ _ _ _ _ _ _ _ _ _ _ _ _ _ _ _ _ _ s0 Q ?_
  refine wnew_of fun s2 p1 p2 p3 => ?_
  have hp2 : SmIn s2.h s0.n v := ⟨_, _, by rw [p2, upd_same]; rfl⟩
  refine Wc.told (v := .bool true) rfl ⟨true, rfl, ?_⟩
  refine bif_of (fun e => absurd e (by simp)) fun _ => ?_
  refine law16_BoundWeights.b0_of E _ _ _ _ s2 Q ?_
  simp only [law16_BoundWeights.SB0, hp2.r, SmV.l0, SmV.l1, SmV.l2, SmV.l3, SmV.l4, SmV.l5, SmV.l6, SmV.l7, SmV.l8, SmV.l9, SmV.l10, ex_slc, ex_int, ex_bool]
  have hv2 : SmOk E s2.h s2.n v D := by
    have := hv.agree p3.h
    exact ⟨this.e, this.t, this.tr, this.b, this.br, this.s.mono p3.n, this.c.mono p3.n, this.o.mono p3.n, this.m.mono p3.n, this.us, this.uc, this.uo, this.um, this.sb, this.cb⟩
  refine Make_ok hv2 fun y s13 Hy g13 => ⟨y.e, y.tm, y.tr, y.bm, y.br, y.sa, y.sn, y.sc, y.ca, y.cn, y.cc, y.oa, y.on, y.oc, y.ta, y.tn, y.tc, rfl, ?_⟩
  have G := makeX_good hv2
  have hC6 : (makeX v D).custs.length ≤ 6 := by
    show (orElse _ _).length ≤ 6
    unfold orElse
    split <;> simp <;> omega
  generalize makeX v D = X at Hy G hC6
  have hsl := Hy.s.len
  have hcl := Hy.c.len
  have g2 := G.s2
  refine wnew_of fun s16 q1 q2 q3 => ?_
  show wstore s16 (here s13.n 0) y.l _
  refine wstore_of (by rw [q2, upd_same]) (by simp [IV.l]) (by simp [one, IV.l]) fun s17 m1 m2 m3 => ?_
  have y17 : InstIn s17.h s13.n y := ⟨_, _, by rw [m2, upd_same]; rfl⟩
  have g17 : Grew s13 s17 := q3.stored (Nat.le_refl _) m1 m2 m3
  have n17 : s17.n = s13.n + 1 := m1.trans q1
  simp only [y17.r, IV.l0, IV.l1, IV.l2, IV.l3, IV.l4, IV.l5, IV.l6, IV.l7, IV.l8, ex_slc, ex_int]
  rw [wu64 (n := (l : Int)) (by omega) (by omega), wu8s hs7.1 hs7.2, wu8s hc7.1 hc7.2]
  refine bWeight_ok hE ((Hy.agree g17.h).mono g17.n) G hC6 hl s c fun s28 g28 => ⟨_, rfl, ?_⟩
  have y28 := y17.agree g28.h (by omega)
  have n28 := g28.n
  have zero : ¬ (0 ≤ s ∧ s < X.sats.length ∧ 0 ≤ c ∧ c < X.custs.length ∧ l < 2 ^ X.custs.length) → law16_BoundWeights.b1 E l s c (here s13.n 0) (bW X l s c) true s28 Q := fun hn => by
    refine law16_BoundWeights.b1_of E _ _ _ _ _ _ s28 Q ?_
    refine bif_of (fun _ => ?_) fun e => absurd e (by simp)
    rw [bW, if_neg hn]
    exact h s28
  refine bif_of (fun e => zero fun hh => ?_) fun e1 => ?_
  · have := of_decide_eq_true e; omega
  simp only [y28.r, IV.l5, IV.l6, ex_slc]
  refine bif_of (fun e => zero fun hh => ?_) fun e2 => ?_
  · have := of_decide_eq_true e; omega
  refine bif_of (fun e => zero fun hh => ?_) fun e3 => ?_
  · have := of_decide_eq_true e; omega
  refine bif_of (fun e => zero fun hh => ?_) fun e4 => ?_
  · have := of_decide_eq_true e; omega
  have e1 := of_decide_eq_false e1
  have e2 := of_decide_eq_false e2
  have e3 := of_decide_eq_false e3
  have e4 := of_decide_eq_false e4
  refine ⟨by omega, ?_⟩
  have hsh := shift_all ⟨l, hl⟩ ⟨y.cn, by omega⟩
  simp only at hsh
  rw [hsh]
  cases e5 : decide (2 ^ y.cn ≤ l) with
  | true =>
    have := of_decide_eq_true e5
    rw [hcl] at this
    exact zero (by omega)
  | false =>
    have e5 := of_decide_eq_false e5
    rw [hcl] at e5
    obtain ⟨sN, rfl⟩ := Int.eq_ofNat_of_zero_le (show 0 ≤ s by omega)
    obtain ⟨cN, rfl⟩ := Int.eq_ofNat_of_zero_le (show 0 ≤ c by omega)
    refine law16_BoundWeights.b1_of E _ _ _ _ _ _ s28 Q ?_
    refine bif_of (fun e => absurd e (by simp)) fun _ => ?_
    refine law16_BoundWeights.b2_of E _ _ _ _ _ s28 Q ?_
    simp only [law16_BoundWeights.SB2, y28.r, IV.l6, ex_slc]
    refine ⟨by omega, Int.le_refl _, by omega, by omega, ?_⟩
    rw [Int.toNat_natCast, Nat.mul_one, rowOf_one, hcl]
    refine wnew_of fun s3 r1 r2 r3 => ?_
    have gg := g17.trans g28
    refine wl3 ((Hy.agree gg.h).mono gg.n) G hC6 hl y28 (by omega) (by omega) (by omega) (by omega) (by omega) (fun s' g' => ?_) (X.custs.length - 0) 0 rfl (by omega) s28.n s3 r3 (Nat.le_refl _) (by omega) ?_
    · rw [bW, if_pos ⟨by omega, by omega, by omega, by omega, by omega⟩]
      simp
      exact h s'
    · rw [r2, upd_same, rowK_zero]
end
end Go.Proofs.YtoimffkejoeadaaGreatDoor.Vm
