/- The logic over the machine: functions, loops at a path, laws. -/
import Derived.Test.YtoimffkejoeadaaGreatDoorW7
namespace Go.Proofs.YtoimffkejoeadaaGreatDoor.Vm
open Go Go.RowKit
set_option linter.unusedVariables false
set_option linter.unusedSimpArgs false

def loopAt : List Nat → Code → LL → Bool
  | [], .loop b, L => subL (lv b { L with n := lv (.loop b) L }) (lv (.loop b) L)
  | i :: p, .seq a b, L => bif Nat.beq i 0 then loopAt p a { L with n := lv b L } else loopAt p b L
  | i :: p, .cond c a b, L => bif Nat.beq i 0 then loopAt p a L else loopAt p b L
  | i :: p, .block id b, L => loopAt p b { L with e := (id, L.n) :: L.e }
  | i :: p, .loop b, L => loopAt p b { L with n := lv (.loop b) L }
  | _, _, _ => false
section
variable {P : Program} {E : Addr → Option Value} {mt : List Meth} {orc : FuncId → List Value → Option Value}
theorem wat_loop {nt : Nat} (hnt : nt ≤ 256) : ∀ (p : List Nat) (c : Code) (L : LL) (hs : slotsOk nt c = true) (hL : LLow L) (kn : WF → WS → Prop) (ke : Nat → WF → WS → Prop) (kr : WF → WS → Prop) (f : WF) (ws : WS), loopAt p c L = true →
    wat P E mt orc (p ++ [0]) c L kn ke kr f ws → wat P E mt orc p c L kn ke kr f ws
  | [], .loop b, L, hs, hL, kn, ke, kr, f, ws, hl, h => by
    have hl : subL (lv b { L with n := lv (.loop b) L }) (lv (.loop b) L) = true := hl
    have hk : (fun f s => wx P E mt orc (.loop b) L f s kn ke kr) = fun f s => WLoop P E mt orc b L (mask (lv (.loop b) L) f) s ke kr := by
      funext f s
      show (bif subL (lv b { L with n := lv (.loop b) L }) (lv (.loop b) L) then WLoop P E mt orc b L (mask (lv (.loop b) L) f) s ke kr else False) = _
      rw [hl]; rfl
    have h : wx P E mt orc b { L with n := lv (.loop b) L } f ws (fun f s => wx P E mt orc (.loop b) L f s kn ke kr) ke kr := h
    rw [hk] at h
    have h1 := wloop_step (b := b) (L := L) hnt hs hL hl h
    show (bif subL (lv b { L with n := lv (.loop b) L }) (lv (.loop b) L) then WLoop P E mt orc b L (mask (lv (.loop b) L) f) ws ke kr else False)
    rw [hl]
    exact fun fr s ha hst => h1 fr s ha.unmask hst
  | i :: p, .seq a b, L, hs, hL, kn, ke, kr, f, ws, hl, h => by
    have hs' : (slotsOk nt a && slotsOk nt b) = true := hs
    rw [Bool.and_eq_true] at hs'
    have hl : (bif Nat.beq i 0 then loopAt p a { L with n := lv b L } else loopAt p b L) = true := hl
    have h : (bif Nat.beq i 0 then wat P E mt orc (p ++ [0]) a { L with n := lv b L } (fun f s => wx P E mt orc b L f s kn ke kr) ke kr else wat P E mt orc (p ++ [0]) b L kn ke kr) f ws := h
    show (bif Nat.beq i 0 then wat P E mt orc p a { L with n := lv b L } (fun f s => wx P E mt orc b L f s kn ke kr) ke kr else wat P E mt orc p b L kn ke kr) f ws
    cases hi : Nat.beq i 0 with
    | true => rw [hi] at hl h; exact wat_loop hnt p a { L with n := lv b L } hs'.1 ⟨lv_low hnt b L hs'.2 hL, hL.e, hL.r⟩ _ _ _ _ _ hl h
    | false => rw [hi] at hl h; exact wat_loop hnt p b L hs'.2 hL _ _ _ _ _ hl h
  | i :: p, .cond c a b, L, hs, hL, kn, ke, kr, f, ws, hl, h => by
    have hs' : (slotOk nt c && constOk c && slotsOk nt a && slotsOk nt b) = true := hs
    simp only [Bool.and_eq_true] at hs'
    have hl : (bif Nat.beq i 0 then loopAt p a L else loopAt p b L) = true := hl
    have h : (bif Nat.beq i 0 then wat P E mt orc (p ++ [0]) a L (fun f s => kn (mask L.n f) s) ke kr else wat P E mt orc (p ++ [0]) b L (fun f s => kn (mask L.n f) s) ke kr) f ws := h
    show (bif Nat.beq i 0 then wat P E mt orc p a L (fun f s => kn (mask L.n f) s) ke kr else wat P E mt orc p b L (fun f s => kn (mask L.n f) s) ke kr) f ws
    cases hi : Nat.beq i 0 with
    | true => rw [hi] at hl h; exact wat_loop hnt p a L hs'.1.2 hL _ _ _ _ _ hl h
    | false => rw [hi] at hl h; exact wat_loop hnt p b L hs'.2 hL _ _ _ _ _ hl h
  | i :: p, .block id b, L, hs, hL, kn, ke, kr, f, ws, hl, h =>
    wat_loop hnt p b { L with e := (id, L.n) :: L.e } hs ⟨hL.n, fun k => by
      show Low (bif Nat.beq id k then L.n else lookE L.e k)
      cases Nat.beq id k with
      | true => exact hL.n
      | false => exact hL.e k, hL.r⟩ _ _ _ _ _ hl h
  | i :: p, .loop b, L, hs, hL, kn, ke, kr, f, ws, hl, h => wat_loop hnt p b { L with n := lv (.loop b) L } hs ⟨lv_low hnt (.loop b) L hs hL, hL.e, hL.r⟩ _ _ _ _ _ hl h

/-! ### Functions -/
theorem Wc.mono {g : FuncId} {args : List Value} {ws : WS} {Q Q' : KV} (h : Wc P E mt orc g args ws Q) (hq : ∀ v s, Q v s → Q' v s) : Wc P E mt orc g args ws Q' := fun s hs => by
  obtain ⟨N, v, s', ws', h1, h2, h3⟩ := h s hs
  exact ⟨N, v, s', ws', h1, h2, hq _ _ h3⟩
theorem Wc.told {g : FuncId} {args : List Value} {ws : WS} {Q : KV} {v : Value} (ho : orc g args = some v) (h : Q v ws) : Wc P E mt orc g args ws Q := fun s hs =>
  ⟨0, v, s, ws, by unfold runCall callBy; rw [ho], hs, h⟩
theorem wresult_ok {γ : Type} {no : γ} {r : ResultVar} {fr : Fr} {f : WF} {ws : WS} {s : PS} {K : Value → Prop} (ha : Ag (resL [r]) fr f) (hs : St ws s) (h : wresult P E r f ws K) :
    ∃ v s', (∀ (γ : Type) (no : γ) (k : Value → PS → γ), resultOf P E no r fr s k = k v s') ∧ St ws s' ∧ K v := by
  cases r with
  | tmp t => exact ⟨getF t fr, s, fun γ no k => rfl, hs, by rw [ha t (by simp [resL])]; exact h⟩
  | cell a t =>
    obtain ⟨ad, hv, h⟩ := onP_some h
    obtain ⟨v, s', h1, h2, h3, _⟩ := load_comes hs h
    refine ⟨v, s', fun γ no k => ?_, h2, h3⟩
    show onO no (vP (getF a fr)) _ = _
    rw [ha a (by simp [resL]), hv]
    exact h1 γ no k
theorem wresults_ok : ∀ {l : List ResultVar} {fr : Fr} {f : WF} {ws : WS} {s : PS} {K : List Value → Prop} (acc : List Value), Ag (resL l) fr f → St ws s → wresults P E l f ws K →
    ∃ vs s', resultsOf P E l fr s acc = .ok (.tuple ⟨acc ++ vs⟩) s' ∧ St ws s' ∧ K vs
  | [], fr, f, ws, s, K, acc, ha, hs, h => ⟨[], s, by show CR.ok (.tuple ⟨acc⟩) s = _; simp, hs, h⟩
  | r :: l, fr, f, ws, s, K, acc, ha, hs, h => by
    obtain ⟨v, s1, h1, h2, h3⟩ := wresult_ok (P := P) (E := E) (no := ()) (r := r) (fun t ht => ha t (by simp [resL] at ht ⊢; exact .inl ht)) hs h
    obtain ⟨vs, s2, h4, h5, h6⟩ := wresults_ok (acc ++ [v]) (fun t ht => ha t (by simp only [resL, List.map_cons]; exact List.mem_cons_of_mem _ ht)) h2 h3
    refine ⟨v :: vs, s2, ?_, h5, h6⟩
    show resultOf P E CR.no r fr s (fun v s => catK acc [v] fun acc => resultsOf P E l fr s acc) = _
    rw [h1]
    simp only [catK_eq]
    rw [h4]
    simp
theorem wret_ok {l : List ResultVar} {fr : Fr} {f : WF} {ws : WS} {s : PS} {Q : KV} (ha : Ag (resL l) fr f) (hs : St ws s) (h : wret P E l Q f ws) : ∃ v s', results1 P E l fr s = .ok v s' ∧ St ws s' ∧ Q v ws := by
  unfold wret at h
  unfold results1
  split at h
  · rename_i r
    obtain ⟨v, s1, h1, h2, h3⟩ := wresult_ok (P := P) (E := E) (no := ()) ha hs h
    exact ⟨v, s1, by simp only; rw [h1, f0_eq], h2, h3⟩
  · rename_i hno
    obtain ⟨vs, s', h1, h2, h3⟩ := wresults_ok [] ha hs h
    refine ⟨_, s', ?_, h2, h3⟩
    split
    · rename_i r; exact absurd rfl (hno r)
    · simpa using h1
theorem wget_arg : ∀ (args : List Value) (n t : Nat), wget t (argF args n) = if n ≤ t then (args[t - n]?).getD undef else undef
  | [], n, t => by simp [argF, wget]
  | v :: l, n, t => by
    show (bif Nat.beq n t then v else wget t (argF l (n + 1))) = _
    cases hb : Nat.beq n t with
    | true => have := Nat.eq_of_beq_eq_true hb; subst this; simp
    | false =>
      have hne : n ≠ t := Nat.ne_of_beq_eq_false hb
      simp only [cond_false]
      rw [wget_arg l (n + 1) t]
      by_cases h : n ≤ t
      · have h1 : n + 1 ≤ t := by omega
        rw [if_pos h, if_pos h1, show t - n = (t - (n + 1)) + 1 by omega]
        simp
      · rw [if_neg h, if_neg (by omega)]
theorem LLow.res {l : List ResultVar} {nt : Nat} (hnt : nt ≤ 256) (h : ∀ r ∈ l, resultOk nt r = true) : LLow ⟨resL l, [], resL l⟩ := by
  have : Low (resL l) := fun t ht => by
    simp only [resL, List.mem_map] at ht
    obtain ⟨r, hr, rfl⟩ := ht
    have := h r hr
    cases r <;> exact Nat.lt_of_lt_of_le (blt_lt this) hnt
  exact ⟨this, fun id t ht => (by cases ht), this⟩
/-- A function, by its body. -/
theorem wc_body {g : FuncId} {fn : Func} {c : Code} {args : List Value} {ws : WS} {Q : KV} (hf : P.funcs[g]? = some fn) (hb : fn.body = some c)
    (hch : (Nat.ble fn.ntmps 256 && slotsOk fn.ntmps c && fn.results.toList.all (resultOk fn.ntmps) && Nat.ble args.length fn.ntmps) = true) (ho : orc g args = none)
    (h : wat P E mt orc [] c ⟨resL fn.results.toList, [], resL fn.results.toList⟩ (wret P E fn.results.toList Q) (fun _ _ _ => False) (wret P E fn.results.toList Q) (argF args 0) ws) : Wc P E mt orc g args ws Q := by
  intro s hs
  rw [Bool.and_eq_true] at hch
  obtain ⟨hch, hlen⟩ := hch
  have hch' := hch
  simp only [Bool.and_eq_true] at hch
  obtain ⟨⟨hnt, hsl⟩, hres⟩ := hch
  have hnt := Nat.le_of_ble_eq_true hnt
  have hlen' := Nat.le_of_ble_eq_true hlen
  have hLL := LLow.res hnt (List.all_eq_true.1 hres)
  have hag : Ag (lv c ⟨resL fn.results.toList, [], resL fn.results.toList⟩) (fillF args 0 fr0) (argF args 0) := fun t ht => by
    have h256 := lv_low hnt c _ hsl hLL t ht
    rw [getF_fill args 0 fr0 t (by omega) h256, wget_arg, getF_fr0]
  obtain ⟨N, hN⟩ := wx_ok hnt c _ hsl hLL _ _ s ws _ _ _ hag hs h
  have open' : runCall P E mt orc N g args s = XR.rec (motive := fun _ => CR) .no (fun fr s => results1 P E fn.results.toList fr s) (fun _ _ _ => .no) (fun fr s => results1 P E fn.results.toList fr s) (exec P E mt orc N c (fillF args 0 fr0) s) := by
    unfold runCall callBy
    rw [ho]
    show bodyOf P E g _ args s = _
    unfold bodyOf
    simp only [hf, hb, hch', cond_true]
    rw [len_eq, hlen]
    simp only [cond_true, frameOf_eq]
  have fin : ∀ {fr1 s1}, (∃ f ws1, Ag (resL fn.results.toList) fr1 f ∧ St ws1 s1 ∧ wret P E fn.results.toList Q f ws1) → ∃ v s' ws', results1 P E fn.results.toList fr1 s1 = .ok v s' ∧ St ws' s' ∧ Q v ws' := fun {fr1 s1} ⟨f, ws1, h1, h2, h3⟩ => by
    obtain ⟨v, s', g1, g2, g3⟩ := wret_ok h1 h2 h3
    exact ⟨v, s', ws1, g1, g2, g3⟩
  cases hx : exec P E mt orc N c (fillF args 0 fr0) s with
  | no => rw [hx] at hN; exact hN.elim
  | exit id fr1 s1 => rw [hx] at hN; obtain ⟨_, _, _, _, h⟩ := hN; exact h.elim
  | normal fr1 s1 =>
    rw [hx] at hN
    obtain ⟨v, s', ws', h1, h2, h3⟩ := fin hN
    exact ⟨N, v, s', ws', by rw [open', hx]; exact h1, h2, h3⟩
  | ret fr1 s1 =>
    rw [hx] at hN
    obtain ⟨v, s', ws', h1, h2, h3⟩ := fin hN
    exact ⟨N, v, s', ws', by rw [open', hx]; exact h1, h2, h3⟩

/-! ### Laws -/
def ws0 : WS := ⟨fun _ => none, 0, fun _ => False⟩
theorem st_start : St ws0 start := by
  refine ⟨?_, rfl, fun b hb => absurd hb (inM_zero b)⟩
  funext b
  have q : ∀ {α : Type} (e : D4) (x : α), q1 e (four x) = x := fun e x => by cases e <;> rfl
  show (bif Nat.blt b 4096 then getT b (four (four (four (four (four (four none)))))) else none) = none
  cases Nat.blt b 4096 with
  | true =>
    simp only [cond_true]
    rw [getT_def, q, q, q, q, q, q]
  | false => rfl
theorem wc_run {W0 : World} (hE : ∀ a v, E a = some v → W0.cell? a = some v ∧ Vm.atom v = true) (hmt : ∀ m ∈ mt, MethOk P m) (hO : OrcOk P W0 orc) (hfol : P.follows .mixedOrders = true)
    {f : FuncId} {args : List Value} {v : Value} (ha : ∀ x ∈ args, plain x = true) (hv : plain v = true) (h : Wc P E mt orc f args ws0 fun u _ => u = v) :
    Calls P f ⟨args⟩ W0 fun e W' => e = .returned v ∧ Below W0.heap.size W0 W' := by
  obtain ⟨N, u, s', ws', h1, _, rfl⟩ := h start st_start
  exact run_plain hE hmt hO hfol ha h1 hv
end
end Go.Proofs.YtoimffkejoeadaaGreatDoor.Vm
