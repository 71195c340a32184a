/- What 'Make' (chapter 11's law) makes: all of it. -/
import Derived.Test.YtoimffkejoeadaaGreatDoorS6
namespace Go.Proofs.YtoimffkejoeadaaGreatDoor.Vm
open Go
set_option linter.unusedVariables false
set_option linter.unusedSimpArgs false
set_option maxRecDepth 10000
def IV.withO (y : IV) (a : Option Addr) (n c : Nat) : IV := { y with oa := a, on := n, oc := c }
def IV.withT (y : IV) (a : Option Addr) (n c : Nat) : IV := { y with ta := a, tn := n, tc := c }
theorem ov7 (y : IV) (a : Option Addr) (n c : Nat) : ov y.l 7 [.slice a n c] = (y.withO a n c).l := rfl
theorem ov8 (y : IV) (a : Option Addr) (n c : Nat) : ov y.l 8 [.slice a n c] = (y.withT a n c).l := rfl
theorem Grew.jst {s0 s s' : WS} (h : Grew s0 s) {b : Nat} {x : Option PB} (hb : s0.n ≤ b) (h1 : s'.n = s.z.n) (h2 : s'.h = Vm.upd s.z.h b x) (h3 : s'.w = addW s.z.w b) : Grew s0 (s.j s') :=
  ⟨by show s0.n ≤ s'.n; rw [h1]; exact h.n, by show Agree _ _ s'.h; rw [h2]; exact h.h.upd hb, fun y hy hw => by
    rcases hw with hw | hw
    · exact h.w y hy hw
    · rw [h3] at hw
      rcases hw with hw | hw
      · exact hw.elim
      · omega⟩
theorem makeX_sats (v : SmV) (D : SmD) : (makeX v D).sats.length ≤ 100 := by
  show (orElse _ _).length ≤ 100
  unfold orElse
  split <;> simp <;> omega
theorem makeX_custs (v : SmV) (D : SmD) : (makeX v D).custs.length ≤ 100 := by
  show (orElse _ _).length ≤ 100
  unfold orElse
  split <;> simp <;> omega
section
variable {E : Addr → Option Value} {s0 : WS} {Q : KV} {v : SmV} {D : SmD}
theorem b3_ok (y : IV) (l : List (Int × Int)) (s : WS) (hi : MInv s0 v y s) (hs : SInv s0 y l s) (w : Int)
    (hK : ∀ a n c s', MInv s0 v (y.withS a n c) s' → SInv s0 (y.withS a n c) (orElse l (60, 2)) s' → law11_Make.b5 E (here s0.n 0) (here (s0.n + 1) 0) w (here (s0.n + 2) 0) s' Q) :
    law11_Make.b3 E (here s0.n 0) (here (s0.n + 1) 0) w (here (s0.n + 2) 0) s Q := by
  refine law11_Make.b3_of E _ _ _ _ s Q ?_
  have hlen : y.sn = l.length := by have := hs.o.len; rw [flat_p] at this; omega
  have hsn := hi.n
  simp only [law11_Make.SB3, hi.yIn.r, IV.l5, ex_slc]
  refine bif_of (fun e => ?_) fun e => ?_
  · have hl : l = [] := by
      apply List.length_eq_zero_iff.1
      have := eq_of_beq e
      omega
    refine wnew_of fun s1 p1 p2 p3 => ?_
    have hg1 := hi.g.trans p3
    have hi1 : MInv s0 v y s1 := hi.step hg1 (by omega) fun x _ hx => by rw [p2, upd_other _ _ _ _ (by omega)]
    rw [padd_here]
    refine wstore_of hi1.y (by simp [IV.l]) (by simp [one]) fun s4 m1 m2 m3 => ?_
    refine hK (some (here s.n 0)) 1 1 s4 ?_ ⟨?_, fun b hb => ?_⟩
    · obtain ⟨e, st, hp⟩ := hi1.p
      obtain ⟨c', hr, hc'⟩ := hi1.r
      refine ⟨hg1.stored (by omega) m1 m2 m3, by omega, ⟨e, st, by rw [m2, upd_other _ _ _ _ (by omega)]; exact hp⟩, ⟨c', by rw [m2, upd_other _ _ _ _ (by omega)]; exact hr, hc'⟩, ?_⟩
      rw [m2, upd_same, Nat.zero_add, ov5]
    · rw [hl]
      refine .blk (b := s.n) ?_ (by omega) rfl
      rw [m2, upd_other _ _ _ _ (by omega), p2, upd_same]
      rfl
    · injection hb with hb
      injection hb with hb
      omega
  · have hl : l ≠ [] := by
      intro h
      rw [h] at hlen
      rw [hlen] at e
      exact absurd e (by simp)
    refine hK y.sa y.sn y.sc s hi ⟨?_, hs.lt⟩
    rw [orElse, if_neg hl]
    exact hs.o
theorem b8_ok (y : IV) (N1 : Nat) (sats : List (Int × Int)) (l : List (Int × Int × Int × Int)) (s : WS) (hi : MInv s0 v y s) (hs : CInv s0 N1 sats y l s)
    (hK : ∀ a n c s', MInv s0 v (y.withC a n c) s' → CInv s0 N1 sats (y.withC a n c) (orElse l (2, 5, 90, 1)) s' → law11_Make.b11 E (here s0.n 0) (here (s0.n + 1) 0) (here (s0.n + 2) 0) s' Q) :
    law11_Make.b8 E (here s0.n 0) (here (s0.n + 1) 0) (here (s0.n + 2) 0) s Q := by
  refine law11_Make.b8_of E _ _ _ s Q ?_
  have hlen : y.cn = l.length := by have := hs.o.len; rw [flat_q] at this; omega
  have hsn := hi.n
  have hle := hs.le
  have hge := hs.ge
  simp only [law11_Make.SB8, hi.yIn.r, IV.l6, ex_slc]
  refine bif_of (fun e => ?_) fun e => ?_
  · have hl : l = [] := by
      apply List.length_eq_zero_iff.1
      have := eq_of_beq e
      omega
    refine wnew_of fun s1 p1 p2 p3 => ?_
    have hg1 := hi.g.trans p3
    have hi1 : MInv s0 v y s1 := hi.step hg1 (by omega) fun x _ hx => by rw [p2, upd_other _ _ _ _ (by omega)]
    rw [padd_here]
    refine wstore_of hi1.y (by simp [IV.l]) (by simp [one]) fun s4 m1 m2 m3 => ?_
    refine hK (some (here s.n 0)) 1 1 s4 ?_ ⟨?_, fun b hb => ?_, ?_, hs.slt, hge, by omega⟩
    · obtain ⟨e, st, hp⟩ := hi1.p
      obtain ⟨c', hr, hc'⟩ := hi1.r
      refine ⟨hg1.stored (by omega) m1 m2 m3, by omega, ⟨e, st, by rw [m2, upd_other _ _ _ _ (by omega)]; exact hp⟩, ⟨c', by rw [m2, upd_other _ _ _ _ (by omega)]; exact hr, hc'⟩, ?_⟩
      rw [m2, upd_same, Nat.zero_add, ov6]
    · rw [hl]
      refine .blk (b := s.n) ?_ (by omega) rfl
      rw [m2, upd_other _ _ _ _ (by omega), p2, upd_same]
      rfl
    · injection hb with hb
      injection hb with hb
      omega
    · refine hs.so.agree fun b hb => ?_
      have h1 := hs.so.ge b hb
      have h2 := hs.slt b hb
      rw [m2, upd_other _ _ _ _ (by omega), p2, upd_other _ _ _ _ (by omega)]
  · have hl : l ≠ [] := by
      intro h
      rw [h] at hlen
      rw [hlen] at e
      exact absurd e (by simp)
    refine hK y.ca y.cn y.cc s hi ⟨?_, hs.lt, hs.so, hs.slt, hge, hle⟩
    rw [orElse, if_neg hl]
    exact hs.o
theorem b11_ok (hv : SmOk E s0.h s0.n v D) (y : IV) (N1 : Nat) (sats : List (Int × Int)) (l : List (Int × Int × Int × Int)) (s : WS) (hi : MInv s0 v y s) (hs : CInv s0 N1 sats y l s)
    (hls : sats.length ≤ 100) (hlc : l.length ≤ 100)
    (hK : ∀ (y' : IV) (s' : WS), y'.e = y.e → y'.tm = y.tm → y'.tr = y.tr → y'.bm = y.bm → y'.br = y.br → Slc E s'.h s'.n 2 i64p y'.sa y'.sn y'.sc sats → Slc E s'.h s'.n 4 i64q y'.ca y'.cn y'.cc l →
      Mat E s'.h s'.n y'.oa y'.on y'.oc (sqr D.cost (1 + sats.length + l.length)) → Mat E s'.h s'.n y'.ta y'.tn y'.tc (sqr D.time (1 + sats.length + l.length)) → Grew s0 s' → Q y'.v s') :
    law11_Make.b11 E (here s0.n 0) (here (s0.n + 1) 0) (here (s0.n + 2) 0) s Q := by
  refine law11_Make.b11_of E _ _ _ s Q ?_
  have hsl : y.sn = sats.length := by have := hs.so.len; rw [flat_p] at this; omega
  have hcl : y.cn = l.length := by have := hs.o.len; rw [flat_q] at this; omega
  have hsn := hi.n
  simp only [law11_Make.SB11, z_h, hi.yIn.r, IV.l0, IV.l1, IV.l2, IV.l3, IV.l4, IV.l5, IV.l6, IV.l7, IV.l8, ex_slc, ex_int, hi.p.r, SmV.l7]
  refine Nodes_ok (s := s.z) y (by omega) (by omega) fun s12 g12 => ⟨_, rfl, apart_addr g12 (by rw [padd_here]; exact Old.here (by omega)), fun s14 e14 => ?_⟩
  have G14 : Grew s s14 := by rw [e14]; exact Grew.z s g12
  have hnn : ((1 : Int) + (y.sn : Int) + (y.cn : Int)) = ((1 + sats.length + l.length : Nat) : Int) := by omega
  rw [hnn]
  have g0 : Grew s0 s14 := hi.g.trans G14
  refine square_ok (s := s14.z) ((hv.o.agree g0.h).mono g0.n) hv.uo (by omega) fun oa oc s16 M16 g16 => ⟨oa, _, oc, rfl, fun s18 e18 => ?_⟩
  have G18 : Grew s14 s18 := by rw [e18]; exact Grew.z s14 g16
  have i18 : MInv s0 v y s18 := hi.step (g0.trans G18) (by have := G14.n; have := G18.n; omega) fun x _ hx => (G14.trans G18).h x (by omega)
  simp only [z_h, i18.yIn.r, IV.l0, IV.l1, IV.l2, IV.l3, IV.l4, IV.l5, IV.l6, IV.l7, IV.l8, ex_slc, ex_int, i18.p.r, SmV.l8]
  have hn14 := G14.n
  have hn18 := G18.n
  have n12 : s.n ≤ s12.n := g12.n
  refine ⟨apart_addr' g16 (by rw [padd_here]; exact Old.here (by omega)), apart_addr' g12 (by rw [padd_here]; exact Old.here (by omega)), apart_addr' g16 (Old.here (by omega)), apart_addr' g12 (Old.here (by omega)), ?_⟩
  refine Nodes_ok (s := s18.z) y (by omega) (by omega) fun s30 g30 => ⟨_, rfl, apart_addr g30 (by rw [padd_here]; exact Old.here (by omega)), fun s32 e32 => ?_⟩
  have G32 : Grew s18 s32 := by rw [e32]; exact Grew.z s18 g30
  rw [hnn]
  have g32 : Grew s0 s32 := i18.g.trans G32
  refine square_ok (s := s32.z) ((hv.m.agree g32.h).mono g32.n) hv.um (by omega) fun ta tc s34 M34 g34 => ⟨ta, _, tc, rfl, fun s36 e36 => ?_⟩
  have G36 : Grew s32 s36 := by rw [e36]; exact Grew.z s32 g34
  have hn32 := G32.n
  have hn36 := G36.n
  have i36 : MInv s0 v y s36 := i18.step (g32.trans G36) (by omega) fun x _ hx => (G32.trans G36).h x (by omega)
  rw [padd_here, padd_here]
  refine wstore_of (s := s36.z) i36.y (by simp [IV.l]) (by simp [one]) fun s37 m1 m2 m3 s38 e38 => ?_
  have g38 : Grew s0 s38 := by rw [e38]; exact i36.g.jst (by omega) m1 m2 m3
  have h38 : s38.h = Vm.upd s36.h (s0.n + 2) (some ⟨(y.withO oa (1 + sats.length + l.length) oc).l, 34, 9⟩) := by
    rw [e38]
    show s37.h = _
    rw [m2, Nat.zero_add, ov7]
    rfl
  have n38 : s38.n = s36.n := by rw [e38]; exact m1
  refine wstore_of (s := s38.z) (by show s38.h _ = _; rw [h38, upd_same]) (by simp [IV.l]) (by simp [one]) fun s39 k1 k2 k3 s40 e40 => ?_
  have g40 : Grew s0 s40 := by rw [e40]; exact g38.jst (by omega) k1 k2 k3
  obtain ⟨yF, hyF⟩ : ∃ yF, yF = (y.withO oa (1 + sats.length + l.length) oc).withT ta (1 + sats.length + l.length) tc := ⟨_, rfl⟩
  have h40 : s40.h = Vm.upd s38.h (s0.n + 2) (some ⟨yF.l, 34, 9⟩) := by
    rw [e40]
    show s39.h = _
    rw [k2, Nat.zero_add, ov8, hyF]
    rfl
  have n40 : s40.n = s36.n := by rw [e40]; exact k1.trans n38
  have y40 : InstIn s40.h (s0.n + 2) yF := ⟨_, _, by rw [h40, upd_same]⟩
  have y40r : ∀ i, rd E s40.h (here (s0.n + 2) (0 + i)) = yF.l[i]? := fun i => by rw [← padd_here]; exact y40.r i
  simp only [y40.r, y40r, IV.l0, IV.l1, IV.l2, IV.l3, IV.l4, IV.l5, IV.l6, IV.l7, IV.l8, ex_slc, ex_int]
  obtain ⟨c, hr, hc⟩ := i36.r
  have r40 : s40.h (s0.n + 1) = some ⟨c, 34, 9⟩ := by rw [h40, upd_other _ _ _ _ (by omega), h38, upd_other _ _ _ _ (by omega)]; exact hr
  show wstore s40 (here (s0.n + 1) 0) yF.l _
  refine wstore_of r40 (by simp [hc, IV.l]) (by simp [one, IV.l]) fun s50 j1 j2 j3 => ?_
  have h50 : s50.h (s0.n + 1) = some ⟨yF.l, 34, 9⟩ := by
    rw [j2, upd_same]
    have : ov c 0 yF.l = yF.l := by
      show (c.take 0) ++ yF.l ++ c.drop (0 + yF.l.length) = yF.l
      rw [List.take_zero, List.nil_append, List.drop_of_length_le (by simp [IV.l, hc]), List.append_nil]
    exact congrArg (fun z => some (PB.mk z _ _)) this
  have y50 : InstIn s50.h (s0.n + 1) yF := ⟨_, _, h50⟩
  simp only [y50.r, IV.l0, IV.l1, IV.l2, IV.l3, IV.l4, IV.l5, IV.l6, IV.l7, IV.l8, ex_slc, ex_int]
  have g50 : Grew s0 s50 := g40.stored (by omega) j1 j2 j3
  have keep : ∀ b, s0.n + 3 ≤ b → s50.h b = s36.h b := fun b hb => by
    rw [j2, upd_other _ _ _ _ (by omega), h40, upd_other _ _ _ _ (by omega), h38, upd_other _ _ _ _ (by omega)]
  have s36s : ∀ b, b < s.n → s36.h b = s.h b := fun b hb => (((G14.trans G18).trans G32).trans G36).h b hb
  have n50 : s50.n = s36.n := j1.trans n40
  have e1834 : s18.n = s16.n := by rw [e18]; rfl
  have e3634 : s36.n = s34.n := by rw [e36]; rfl
  have hle := hs.le
  have hge := hs.ge
  refine hK yF s50 (by rw [hyF]; rfl) (by rw [hyF]; rfl) (by rw [hyF]; rfl) (by rw [hyF]; rfl) (by rw [hyF]; rfl) ?_ ?_ ?_ ?_ g50
  · have : Own s50.h (s0.n + 3) 37 2 y.sa y.sn y.sc (sats.flatMap i64p) := hs.so.agree fun b hb => by
      rw [keep b (hs.so.ge b hb), s36s b (by have := hs.slt b hb; omega)]
    rw [hyF]
    exact this.slc (fun _ _ => rfl) (by omega) fun b hb => by have := hs.slt b hb; omega
  · have : Own s50.h N1 39 4 y.ca y.cn y.cc (l.flatMap i64q) := hs.o.agree fun b hb => by
      rw [keep b (by have := hs.o.ge b hb; omega), s36s b (hs.lt b hb)]
    rw [hyF]
    exact this.slc (fun _ _ => rfl) (by omega) fun b hb => by have := hs.lt b hb; omega
  · rw [hyF]
    refine Mat.mono (M16 s50.h fun b h1 h2 => ?_) (by omega)
    have h1' : s14.n ≤ b := h1
    rw [keep b (by omega), (G32.trans G36).h b (by omega), e18]
    rfl
  · rw [hyF]
    refine Mat.mono (M34 s50.h fun b h1 h2 => ?_) (by omega)
    have h1' : s32.n ≤ b := h1
    rw [keep b (by omega), e36]
    rfl
/-- What 'Make' makes. -/
theorem Make_ok (hv : SmOk E s0.h s0.n v D) (hK : ∀ y s', InstOk E s'.h s'.n y (makeX v D) → Grew s0 s' → Q y.v s') : call E 11 [v.v] s0 Q := by
  refine law11_Make.of E _ _ _ _ _ _ _ _ _ _ _ _ _ _ _ _ _ _ _ s0 Q ?_
  refine wnew_of fun s1 p1 p2 p3 => ?_
  refine wnew_of fun s2 q1 q2 q3 => ?_
  have hp2 : SmIn s2.h s0.n v := ⟨_, _, by rw [q2, upd_other _ _ _ _ (by omega), p2, upd_same]; rfl⟩
  simp only [hp2.r, SmV.l10, ex_bool]
  have e1 : s1.n = s0.n + 1 := p1
  rw [e1] at q1 q2 ⊢
  have hgo : law11_Make.b0 E (here s0.n 0) (here (s0.n + 1) 0) (wideOf v.loose) s2 Q := by
    refine law11_Make.b0_of E _ _ _ s2 Q ?_
    simp only [law11_Make.SB0, hp2.r, SmV.l0, SmV.l1, SmV.l2, SmV.l3, SmV.l4, ex_int]
    refine ⟨by omega, by omega, by omega, by omega, ?_⟩
    have hw : wideOf v.loose = 9 ∨ wideOf v.loose = 1 := by unfold wideOf; cases v.loose <;> simp
    have c0 : IntKind.wrap .i64 (40 + IntKind.wrap .i64 (IntKind.wrap .i64 v.e * wideOf v.loose)) = (makeX v D).e := by
      obtain ⟨h1, h2⟩ := hv.e
      show _ = 40 + v.e * wideOf v.loose
      rcases hw with hw | hw <;> (rw [hw]; rw [w64 (n := v.e) (by omega) (by omega), w64 (n := v.e * _) (by omega) (by omega), w64 (by omega) (by omega)])
    have c1 : IntKind.wrap .i64 (1 + IntKind.wrap .i64 (Int.tmod v.t 4)) = (makeX v D).tm := by
      obtain ⟨h1, h2⟩ := hv.t
      show _ = 1 + v.t % 4
      rw [tm_mod h1, w64 (n := v.t % 4) (by omega) (by omega), w64 (by omega) (by omega)]
    have c2 : IntKind.wrap .i64 (5 + IntKind.wrap .i64 (wideOf v.loose * IntKind.wrap .i64 (Int.tmod v.tr 40))) = (makeX v D).tr := by
      obtain ⟨h1, h2⟩ := hv.tr
      show _ = 5 + wideOf v.loose * (v.tr % 40)
      rw [tm_mod h1]
      rcases hw with hw | hw <;> (rw [hw]; rw [w64 (n := v.tr % 40) (by omega) (by omega), w64 (n := _ * (v.tr % 40)) (by omega) (by omega), w64 (by omega) (by omega)])
    have c3 : IntKind.wrap .i64 (1 + IntKind.wrap .i64 (Int.tmod v.b 6)) = (makeX v D).bm := by
      obtain ⟨h1, h2⟩ := hv.b
      show _ = 1 + v.b % 6
      rw [tm_mod h1, w64 (n := v.b % 6) (by omega) (by omega), w64 (by omega) (by omega)]
    have c4 : IntKind.wrap .i64 (3 + IntKind.wrap .i64 (wideOf v.loose * IntKind.wrap .i64 (Int.tmod v.br 20))) = (makeX v D).br := by
      obtain ⟨h1, h2⟩ := hv.br
      show _ = 3 + wideOf v.loose * (v.br % 20)
      rw [tm_mod h1]
      rcases hw with hw | hw <;> (rw [hw]; rw [w64 (n := v.br % 20) (by omega) (by omega), w64 (n := _ * (v.br % 20)) (by omega) (by omega), w64 (by omega) (by omega)])
    rw [c0, c1, c2, c3, c4]
    refine wnew_of fun s3 r1 r2 r3 => ?_
    have e2 : s2.n = s0.n + 2 := q1
    rw [e2] at r1 r2 ⊢
    refine wstore_of (by rw [r2, upd_same]) (by simp) (by simp [one]) fun s4 m1 m2 m3 => ?_
    obtain ⟨y0, hy0⟩ : ∃ y0 : IV, y0 = ⟨(makeX v D).e, (makeX v D).tm, (makeX v D).tr, (makeX v D).bm, (makeX v D).br, none, 0, 0, none, 0, 0, none, 0, 0, none, 0, 0⟩ := ⟨_, rfl⟩
    have g4 : Grew s0 s4 := ((p3.trans q3).trans r3).stored (by omega) m1 m2 m3
    have p4 : SmIn s4.h s0.n v := by
      obtain ⟨e, st, hp⟩ := hp2
      exact ⟨e, st, by rw [m2, upd_other _ _ _ _ (by omega), r2, upd_other _ _ _ _ (by omega)]; exact hp⟩
    have i4 : MInv s0 v y0 s4 := by
      refine ⟨g4, by omega, p4, ⟨[.int .i64 0, .int .i64 0, .int .i64 0, .int .i64 0, .int .i64 0, .slice none 0 0, .slice none 0 0, .slice none 0 0, .slice none 0 0], ?_, rfl⟩, ?_⟩
      · rw [m2, upd_other _ _ _ _ (by omega), r2, upd_other _ _ _ _ (by omega), q2, upd_same]
      · rw [m2, upd_same, hy0]
        rfl
    simp only [p4.r, SmV.l5, ex_slc]
    have hS := sats_loop (Q := Q) hv y0 (by rw [hy0]; exact ⟨rfl, rfl, rfl⟩) (fun a n c s' hi hs => b3_ok _ _ s' hi hs _ fun a n c s5 hi5 hs5 => by
      refine law11_Make.b5_of E _ _ _ _ s5 Q ?_
      simp only [law11_Make.SB5, hi5.p.r, SmV.l6, ex_slc]
      have hC := custs_loop (Q := Q) hv s5.n _ (y0.withS a n c) (fun a' n' c' s' hi hs => b8_ok _ _ _ _ s' hi hs fun a' n' c' s6 hi6 hs6 => b11_ok hv _ _ _ _ s6 hi6 hs6 ?_ ?_ fun y' s' e1 e2 e3 e4 e5 h1 h2 h3 h4 h5 => hK y' s' ⟨e1.trans (by rw [hy0]; rfl), e2.trans (by rw [hy0]; rfl), e3.trans (by rw [hy0]; rfl), e4.trans (by rw [hy0]; rfl), e5.trans (by rw [hy0]; rfl), h1, h2, h3, h4⟩ h5) (v.cn - 0) 0 rfl (by omega) none 0 0 s5 ?_ ?_
      · exact hC
      · exact makeX_sats v D
      · exact makeX_custs v D
      · have := hi5
        rw [hy0] at this ⊢
        exact this
      · exact ⟨.nil, (fun b hb => by cases hb), hs5.o, hs5.lt, hi5.n, Nat.le_refl _⟩) (v.sn - 0) 0 rfl (by omega) none 0 0 s4 (by have := i4; rw [hy0] at this ⊢; exact this) ⟨.nil, fun b hb => by cases hb⟩
    exact hS
  refine bif_of (fun e => ?_) fun e => ?_
  · have := hgo
    rw [wideOf, e] at this
    exact this
  · have := hgo
    rw [wideOf, e] at this
    exact this
end
end Go.Proofs.YtoimffkejoeadaaGreatDoor.Vm
