/- The machine of our own: results, first frames, code, calls. -/
import Derived.Test.YtoimffkejoeadaaGreatDoorVm17
namespace Go.Proofs.YtoimffkejoeadaaGreatDoor.Vm
open Go Go.RowKit
set_option linter.unusedVariables false
set_option linter.constructorNameAsVariable false
set_option linter.unusedSimpArgs false

/-! ### Results -/
def resGo (tmps : Array Value) : ResultVar → Sem Value
  | .tmp t => pure (tmps.getD t undef)
  | .cell a t => do loadVar t (← asAddr (tmps.getD a undef))

section
variable {P : Program} {W0 : World} {E : Addr → Option Value}

/-- A result read, on both sides. -/
structure ResAt (P : Program) (W0 : World) (nt : Nat) (fr : Fr) (s : PS) (r : ResultVar) (v : Value) (s1 : PS) : Prop where
  pl : PL s s1
  heap : s1.heap = s.heap
  next : s1.next = s.next
  get : ∀ M, MaskIn s1 M → ∀ ι (a : Act) W, RH W0 ι M (hv s.heap) W → FRel ι nt fr a → ∃ x, (resGo a.tmps r).run P W = .ok x W ∧ VR ι v x
theorem RH.same {ι : Nat → Option Info} {M : Nat → Prop} {s s1 : PS} {W : World} (h : s1.heap = s.heap) (hR : RH W0 ι M (hv s.heap) W) : RH W0 ι M (hv s1.heap) W := by rw [h]; exact hR

variable (hE : ∀ a v, E a = some v → W0.cell? a = some v ∧ atom v = true)
include hE
theorem res_ok {γ : Type} {no : γ} {k : Value → PS → γ} {nt : Nat} {fr : Fr} {s : PS} {r : ResultVar} (hr : resultOk nt r = true) : Ans no k (ResAt P W0 nt fr s r) (resultOf P E no r fr s k) := by
  cases r with
  | tmp t => exact Ans.yes ⟨PL.refl s, rfl, rfl, fun M hM ι a W hR hf => ⟨_, rfl, hf.slot t (blt_lt hr)⟩⟩
  | cell c t =>
    refine Ans.onO fun a ha => load_ok (P := P) hE fun v s1 H => Ans.yes ⟨H.pl, H.heap, H.next, fun M hM ι ac W hR hf => ?_⟩
    have ha := vP_eq ha
    have hs := hf.slot c (blt_lt hr)
    rw [ha] at hs
    obtain ⟨a', ha', har⟩ := VR.of_ptr hs
    obtain ⟨x, hx, hvx⟩ := H.get M hM ι W hR a' har
    exact ⟨x, by simp only [resGo, ha']; simp [asAddr, hx], hvx⟩

theorem ress_ok {nt : Nat} {fr : Fr} : ∀ (l : List ResultVar) (s : PS) (acc : List Value) (v : Value) (s1 : PS), (∀ r ∈ l, resultOk nt r = true) → resultsOf P E l fr s acc = .ok v s1 →
    ∃ vs, v = .tuple ⟨acc ++ vs⟩ ∧ vs.length = l.length ∧ PL s s1 ∧ s1.heap = s.heap ∧ s1.next = s.next ∧ ∀ M, MaskIn s1 M → ∀ ι (a : Act) W, RH W0 ι M (hv s.heap) W → FRel ι nt fr a → ∃ xs, (l.mapM (resGo a.tmps)).run P W = .ok xs W ∧ LR ι vs xs
  | [], s, acc, v, s1, hl, h => by
    have h' : CR.ok (.tuple ⟨acc⟩) s = .ok v s1 := h
    injection h' with h1 h2
    subst h1
    subst h2
    exact ⟨[], by simp, rfl, PL.refl s, rfl, rfl, fun M hM ι a W hR hf => ⟨[], rfl, .nil⟩⟩
  | r :: l, s, acc, v, s1, hl, h => by
    have h' : resultOf P E CR.no r fr s (fun v s => catK acc [v] fun acc => resultsOf P E l fr s acc) = .ok v s1 := h
    rcases res_ok (P := P) (W0 := W0) (nt := nt) (no := CR.no) (k := fun v s => catK acc [v] fun acc => resultsOf P E l fr s acc) (fr := fr) (s := s) hE (hl r (by simp)) with e | ⟨u, s2, e, H⟩
    · rw [e] at h'; cases h'
    · rw [e] at h'
      simp only [catK_eq] at h'
      obtain ⟨vs, h1, h2, h3, h4, h5, h6⟩ := ress_ok l s2 (acc ++ [u]) v s1 (fun r hr => hl r (by simp [hr])) h'
      refine ⟨u :: vs, by rw [h1]; simp, by simp [h2], H.pl.trans h3, h4.trans H.heap, h5.trans H.next, fun M hM ι a W hR hf => ?_⟩
      obtain ⟨x, hx, hux⟩ := H.get M (hM.back h3) ι a W hR hf
      obtain ⟨xs, hxs, hvs⟩ := h6 M hM ι a W (RH.same H.heap hR) hf
      exact ⟨x :: xs, by simp [List.mapM_cons, hx, hxs], .cons hux hvs⟩

omit hE in
theorem results_eq (fn : Func) (tmps : Array Value) : results fn tmps = (do
    let vs ← fn.results.mapM (resGo tmps)
    pure (if h : vs.size = 1 then vs[0] else .tuple vs)) := rfl
omit hE in
theorem results_run (fn : Func) (tmps : Array Value) (W : World) (xs : List Value) (h : (fn.results.toList.mapM (resGo tmps)).run P W = .ok xs W) :
    (results fn tmps).run P W = .ok (match (motive := List Value → Value) xs with | [x] => x | xs => .tuple ⟨xs⟩) W := by
  rw [results_eq, Array.mapM_eq_mapM_toList]
  simp only [Sem.run_bind, Sem.run_map, h, Result.andThen_ok, Sem.run_pure]
  congr 1
  clear h
  cases xs with
  | nil => rfl
  | cons x l =>
    cases l with
    | nil => rfl
    | cons y l => simp

theorem results_ok {nt : Nat} {fn : Func} {fr : Fr} {s s1 : PS} {v : Value} (hl : ∀ r ∈ fn.results.toList, resultOk nt r = true) (h : results1 P E fn.results.toList fr s = .ok v s1) :
    PL s s1 ∧ s1.heap = s.heap ∧ s1.next = s.next ∧ ∀ M, MaskIn s1 M → ∀ ι (a : Act) W, RH W0 ι M (hv s.heap) W → FRel ι nt fr a → ∃ x, (results fn a.tmps).run P W = .ok x W ∧ VR ι v x := by
  have multi : fn.results.toList.length ≠ 1 → resultsOf P E fn.results.toList fr s [] = .ok v s1 → PL s s1 ∧ s1.heap = s.heap ∧ s1.next = s.next ∧ ∀ M, MaskIn s1 M → ∀ ι (a : Act) W, RH W0 ι M (hv s.heap) W → FRel ι nt fr a → ∃ x, (results fn a.tmps).run P W = .ok x W ∧ VR ι v x := by
    intro hne h
    obtain ⟨vs, h1, h2, h3, h4, h5, h6⟩ := ress_ok hE _ s [] v s1 hl h
    refine ⟨h3, h4, h5, fun M hM ι a W hR hf => ?_⟩
    obtain ⟨xs, hxs, hvs⟩ := h6 M hM ι a W hR hf
    refine ⟨.tuple ⟨xs⟩, ?_, ?_⟩
    · rw [results_run fn a.tmps W xs hxs]
      have hx : xs.length ≠ 1 := by rw [← hvs.1, h2]; exact hne
      match xs, hx with
      | [], _ => rfl
      | [x], hx => exact absurd rfl hx
      | x :: y :: l, _ => rfl
    · rw [h1, List.nil_append]
      exact .tuple hvs.1 hvs.2
  cases hr : fn.results.toList with
  | nil => exact multi (by rw [hr]; simp) (by rw [hr] at h ⊢; exact h)
  | cons r l =>
    cases l with
    | cons y l => exact multi (by rw [hr]; simp) (by rw [hr] at h ⊢; exact h)
    | nil =>
      rw [hr] at h
      have h' : resultOf P E CR.no r fr s (fun v s => f0 v fun v => .ok v s) = .ok v s1 := h
      rcases res_ok (P := P) (W0 := W0) (nt := nt) (no := CR.no) (k := fun v s => f0 v fun v => CR.ok v s) (fr := fr) (s := s) hE (hl r (by rw [hr]; simp)) with e | ⟨u, s2, e, H⟩
      · rw [e] at h'; cases h'
      · rw [e] at h'
        simp only [f0_eq] at h'
        injection h' with h1 h2
        subst h1
        subst h2
        refine ⟨H.pl, H.heap, H.next, fun M hM ι a W hR hf => ?_⟩
        obtain ⟨x, hx, hux⟩ := H.get M hM ι a W hR hf
        exact ⟨x, results_run fn a.tmps W [x] (by rw [hr]; simp [List.mapM_cons, hx]), hux⟩
end

/-! ### First frames -/
noncomputable def fillF : List Value → Nat → Fr → Fr
  | [], _, fr => fr
  | v :: l, n, fr => fillF l (n + 1) (putF n v fr)
theorem frameOf_eq {γ : Type} : ∀ (l : List Value) (n : Nat) (fr : Fr) (k : Fr → γ), frameOf l n fr k = k (fillF l n fr)
  | [], n, fr, k => rfl
  | v :: l, n, fr, k => by
    show f0 v (fun v => setF n v fr fun fr => frameOf l (n + 1) fr k) = _
    rw [f0_eq, setF_eq, frameOf_eq l]
    rfl
theorem getF_fill : ∀ (l : List Value) (n : Nat) (fr : Fr) (t : Nat), n + l.length ≤ 256 → t < 256 → getF t (fillF l n fr) = if n ≤ t then (l[t - n]?).getD (getF t fr) else getF t fr
  | [], n, fr, t, h, ht => by simp [fillF]
  | v :: l, n, fr, t, h, ht => by
    simp only [List.length_cons] at h
    show getF t (fillF l (n + 1) (putF n v fr)) = _
    rw [getF_fill l (n + 1) _ t (by omega) ht]
    by_cases h1 : n + 1 ≤ t
    · rw [if_pos h1, if_pos (by omega), getF_other n t v fr (show n < 256 by omega) ht (show t ≠ n by omega), show t - n = (t - (n + 1)) + 1 by omega]
      simp
    · rw [if_neg h1]
      by_cases h2 : n = t
      · subst h2
        rw [if_pos (Nat.le_refl _), getF_same]
        simp
      · rw [if_neg (by omega), getF_other n t v fr (show n < 256 by omega) ht (show t ≠ n by omega)]
theorem getF_fr0 (t : Nat) : getF t fr0 = undef := by
  have q : ∀ {α : Type} (d : D4) (x : α), q1 d (four x) = x := fun d x => by cases d <;> rfl
  show q1 _ (q1 _ (q1 _ (q1 _ fr0))) = undef
  unfold fr0
  rw [q, q, q, q]
theorem first_frame {ι : Nat → Option Info} {nt : Nat} {args rargs : List Value} (h : LR ι args rargs) (hn : args.length ≤ nt) (hnt : nt ≤ 256) :
    FRel ι nt (fillF args 0 fr0) { tmps := ⟨rargs⟩ ++ Array.replicate (nt - (⟨rargs⟩ : Array Value).size) undef, defers := [] } := by
  have hlen := h.1
  refine ⟨by simp; omega, hnt, fun t ht => ?_⟩
  rw [getF_fill args 0 fr0 t (by omega) (by omega), if_pos (Nat.zero_le _), Nat.sub_zero, getF_fr0]
  by_cases hlt : t < args.length
  · have h1 := List.getElem?_eq_getElem hlt
    obtain ⟨v, hv, hr⟩ := h.at h1
    have e : ((⟨rargs⟩ : Array Value) ++ Array.replicate (nt - (⟨rargs⟩ : Array Value).size) undef)[t]? = some v := by
      rw [Array.getElem?_append_left (by simp; omega)]
      simpa using hv
    have : ((⟨rargs⟩ : Array Value) ++ Array.replicate (nt - (⟨rargs⟩ : Array Value).size) undef).getD t undef = v := by
      rw [Array.getD_eq_getD_getElem?, e]; rfl
    rw [this, h1]
    exact hr
  · have h1 : args[t]? = none := List.getElem?_eq_none (by omega)
    have e : ((⟨rargs⟩ : Array Value) ++ Array.replicate (nt - (⟨rargs⟩ : Array Value).size) undef)[t]? = some undef := by
      rw [Array.getElem?_append_right (by simp; omega), Array.getElem?_replicate, if_pos (by simp; omega)]
    have : ((⟨rargs⟩ : Array Value) ++ Array.replicate (nt - (⟨rargs⟩ : Array Value).size) undef).getD t undef = undef := by
      rw [Array.getD_eq_getD_getElem?, e]; rfl
    rw [this, h1]
    exact .undef
end Go.Proofs.YtoimffkejoeadaaGreatDoor.Vm
