/- The machine of our own: regions that draw their order, the whole. -/
import Derived.Test.YtoimffkejoeadaaGreatDoorVm16
namespace Go.Proofs.YtoimffkejoeadaaGreatDoor.Vm
open Go Go.RowKit
set_option linter.unusedVariables false
set_option linter.unusedSimpArgs false

theorem chain_cover {P : Program} {W0 : World} {ops : Array Oper} {j n nN : Nat} {fr frN : Fr} {h hN : Hp} {L : List Rc} (hc : Chain P W0 ops j fr h n L frN hN nN) : ∀ b, n ≤ b → b < nN → ∃ (k : Nat) (r : Rc), L[k]? = some r ∧ r.n ≤ b ∧ b < r.t.next := by
  induction hc with
  | nil => intro b h1 h2; omega
  | cons hoi hcs hst rest ih =>
    rename_i j fr frN h hN n nN o v t bm L
    intro b h1 h2
    rcases Nat.lt_or_ge b t.next with h3 | h3
    · exact ⟨0, ⟨o, fr, h, n, v, t, bm⟩, rfl, h1, h3⟩
    · obtain ⟨k, r, hk, h4, h5⟩ := ih b h3 h2
      exact ⟨k + 1, r, by simpa using hk, h4, h5⟩

section
variable {P : Program} {W0 : World} {E : Addr → Option Value} {mt : List Meth} {call : Caller} {ops : Array Oper}

theorem all_listed {listed : Array Bool} (hsz : listed.size = ops.size) (hback : ∀ (j : Nat) (o : Oper), ops[j]? = some o → ∀ e ∈ o.after, Region.binds .any e = true → e.on < j) (hr : Region.ready .any ops listed = []) :
    ∀ j, j < ops.size → listed.getD j false = true := by
  intro j
  induction j using Nat.strongRecOn with
  | _ j ih =>
    intro hj
    cases hx : listed.getD j false with
    | true => rfl
    | false =>
      have hjl : j < listed.size := by omega
      have hoj : ops[j]? = some ops[j] := Array.getElem?_eq_getElem hj
      have : j ∈ Region.ready .any ops listed := mem_ready.2 ⟨by simp [hjl] at hx ⊢; exact hx, ops[j], hoj, fun e he hb => by
        have hlt := hback j _ hoj e he hb
        exact ih e.on hlt (by omega)⟩
      rw [hr] at this
      cases this

variable (hE : ∀ a v, E a = some v → W0.cell? a = some v ∧ atom v = true) (hmt : ∀ m ∈ mt, MethOk P m) (hC : CallOk P W0 call)
include hE hmt hC
theorem region_draw {nt : Nat} {id : Nat} (hfol : P.follows .mixedOrders = true) (hok : ∀ o ∈ ops.toList, operOk nt o = true) (hap : apartOk ops (aheads ops.toList []) = true) {fr frN : Fr} {s sN : PS}
    (h : opsDraw P E mt ops (ops.toList.zip (aheads ops.toList [])) 0 [] call fr s = .ok frN sN) : ExecR P W0 nt (.region id ops true) fr s .normal frN sN := by
  have hlen : (aheads ops.toList []).length = ops.size := by rw [aheads_length]; simp
  have hzip : ∀ (k : Nat) (x : Oper × Nat), (ops.toList.zip (aheads ops.toList []))[k]? = some x → ops[k]? = some x.1 ∧ (aheads ops.toList [])[k]? = some x.2 := fun k x hx => by
    rw [List.getElem?_zip_eq_some] at hx
    exact ⟨by simpa using hx.1, hx.2⟩
  obtain ⟨L, hc, hmap, _, hfree, hmask, hmasks⟩ := draw_ok hE hmt hC _ 0 [] fr s frN sN (fun k x hx => by rw [Nat.zero_add]; exact (hzip k x hx).1) h
  have hLn : L.length = ops.size := by
    have := congrArg List.length hmap
    simp only [List.length_map, List.length_zip, Array.length_toList, hlen, Nat.min_self] at this
    exact this
  have hat : ∀ (k : Nat) (r : Rc), L[k]? = some r → (ops.toList.zip (aheads ops.toList []))[k]? = some (r.o, r.bm) := fun k r hk => by rw [← hmap, List.getElem?_map, hk]; rfl
  have hbm : ∀ (k : Nat) (r : Rc), L[k]? = some r → (aheads ops.toList [])[k]? = some r.bm := fun k r hk => (hzip k _ (hat k r hk)).2
  unfold apartOk at hap
  rw [Bool.and_eq_true] at hap
  have hback : ∀ (j : Nat) (o : Oper), ops[j]? = some o → ∀ e ∈ o.after, Region.binds .any e = true → e.on < j := fun j o hj e he hb => by
    have h1 := List.all_eq_true.1 hap.2 (o, j) (by
      rw [List.mem_zipIdx_iff_getElem?]
      simpa using hj)
    have h2 := List.all_eq_true.1 h1 e (by simpa using he)
    simp only [hb, Bool.not_true, Bool.false_or] at h2
    exact blt_lt h2
  have hapart : ∀ (i j : Nat) (x y : Rc), i < j → L[i]? = some x → L[j]? = some y → Nat.testBit y.bm i = true ∨ (Indep ops x y ∧ Indep ops y x) := fun i j x y hlt hx hy => by
    have h1 := (apartGo_spec ops _ 0 [] hap.1).2 i j _ _ hlt (hat i x hx) (hat j y hy)
    have h2 := hfree i j x y hlt hx hy
    rw [Nat.zero_add] at h1 h2
    rcases h1 with h1 | h1
    · exact .inl h1
    · rcases h2 with h2 | h2
      · exact .inl h2
      · obtain ⟨a1, a2, a3⟩ := Oper.apart_spec h1
        exact .inr ⟨⟨a1, a2, a3, fun b => (h2 b).2⟩, ⟨a3, fun d hd e => a2 d e hd, a1, fun b => (h2 b).1⟩⟩
  obtain ⟨hF, _⟩ := chain_F hc
  obtain ⟨hH, _⟩ := chain_H hc
  obtain ⟨hn1, hn2, hn3⟩ := chain_next hc
  have hpl : PL s sN := by
    refine ⟨hn1, fun b hb => (hmask b).1 hb, fun b hb => (hmask b).2 hb, fun b hb => ?_, fun b h1 h2 => ?_⟩
    · by_cases hw : inM sN.wr b
      · exact hw
      · refine absurd ?_ hb
        rw [← hH, HS_agree (S := fun _ => true) (S' := fun _ => false) L 0 (hv s.heap) (hv s.heap) rfl fun k r hk hr => absurd ((hmasks k r hk b).2 hr) hw]
        rw [HS_none L 0 _ fun i _ => rfl]
    · obtain ⟨k, r, hk, h3, h4⟩ := chain_cover hc b h1 h2
      exact (hmasks k r hk b).2 ((chain_at hc k r hk).2.2.1.new b h3 h4)
  refine ⟨hpl, fun M hM ι a W hR hfr hF0 Q hQ => ?_⟩
  refine wp_region_any hfol ?_
  have hMs : ∀ (k : Nat) (r : Rc), L[k]? = some r → ∀ b, inM r.t.rd b ∨ inM r.t.wr b → M b := fun k r hk b hb => hM b (hb.imp (hmasks k r hk b).1 (hmasks k r hk b).2)
  refine wpAny_inv (fun listed a' W' => ∃ ι', Way P W0 ops L nt fr s.heap s.next sN.next M ι a W listed a' W' ι') (fun listed a' W' j hI hj => way_step hc hLn hbm hapart hok hfr.le hMs hI hj) (fun listed a' W' hI hr => ?_) _ _ _ _ ?_ ?_
  · obtain ⟨ι', hI⟩ := hI
    have hall := all_listed hI.size hback hr
    have hk : ∀ (k : Nat) (r : Rc), L[k]? = some r → listed.getD k false = true := fun k r hk => hall k (by rw [← hLn]; exact (List.getElem?_eq_some_iff.1 hk).1)
    have hdst : ∀ (k : Nat) (x : Rc), L[k]? = some x → ∀ d, x.o.dst = some d → d < 256 := fun k x hk d hd => by
      have := (chain_at hc k x hk).1
      exact Nat.lt_of_lt_of_le ((operOk_spec (hok x.o (by simpa using Array.mem_of_getElem? this))).2 d hd) hfr.le
    refine hQ ι' a' W' ⟨hI.frame.size, hI.frame.le, fun t ht => ?_⟩ hI.defers ?_
    · rw [← hF, FS_agree (S := fun _ => true) (S' := fun i => listed.getD i false) (Nat.lt_of_lt_of_le ht hfr.le) L 0 fr fr hdst rfl fun k r hk' _ => by rw [Nat.zero_add, hk k r hk']]
      exact hI.frame.slot t ht
    · have e : HS (fun i => listed.getD i false) 0 L (hv s.heap) = hv sN.heap := by
        rw [← hH]
        funext b
        exact HS_agree L 0 _ _ rfl fun k r hk' _ => by rw [Nat.zero_add]; exact hk k r hk'
      rw [← e]
      exact hI.post
  · have hfalse : ∀ i, (Array.replicate ops.size false).getD i false = false := fun i => by
      by_cases hi : i < ops.size <;> simp [hi]
    refine ⟨ι, by simp, fun j o hj => (by rw [hfalse] at hj; cases hj), rfl, ?_, ?_, fun k r hk _ b h1 h2 => hF0 b (by have := hn2 k r hk; omega) (by have := hn2 k r hk; omega)⟩
    · rw [FS_none L 0 fr fun i _ => hfalse i]
      exact hfr
    · rw [HS_none L 0 _ fun i _ => hfalse i]
      exact Post.drew hR _ _
  · unfold left
    simp
end
end Go.Proofs.YtoimffkejoeadaaGreatDoor.Vm
