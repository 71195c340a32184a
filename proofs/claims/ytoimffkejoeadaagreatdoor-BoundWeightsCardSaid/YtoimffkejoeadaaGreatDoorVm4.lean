/- The machine of our own: what reading, writing, killing and making a block does to both memories. -/
import Derived.Test.YtoimffkejoeadaaGreatDoorVm3
import Derived.Laws.AppendOwn
namespace Go.Proofs.YtoimffkejoeadaaGreatDoor.Vm
open Go Go.RowKit
set_option linter.unusedVariables false
set_option linter.unusedSimpArgs false

theorem one_oneCell (v : Value) : v.oneCell' = one v := by cases v <;> rfl
theorem add_none (g o j : Nat) : (⟨g, o, none⟩ : Addr).add j = ⟨g, o + j, none⟩ := by unfold Addr.add; split <;> simp_all

theorem run_put (P : Program) (g o : Nat) (t : TypeId) (fz : Nat × Nat) : ∀ (vs : List Value) (i : Nat) (cur : Array Value) (w : World), w.heap[g]? = some (.cells cur t fz) →
    (∀ j, j < cur.size → (decide (fz.1 ≤ j) && decide (j < fz.2)) = false) → o + i + vs.length ≤ cur.size → (∀ v ∈ vs, v.oneCell' = true) →
    (storeCells ⟨g, o, none⟩ vs i).run P w = .ok () (w.setRow g (cur.toList.take (o + i) ++ vs ++ cur.toList.drop (o + i + vs.length)).toArray)
  | [], i, cur, w, hg, _, _, _ => by
    simp only [storeCells, List.append_nil, List.length_nil, Nat.add_zero, List.take_append_drop, Array.toArray_toList]
    rw [setRow_self w g cur t fz hg]
    rfl
  | v :: rest, i, cur, w, hg, hfz, hl, h1 => by
    have hi : o + i < cur.size := by simp at hl; omega
    have hadd : (⟨g, o, none⟩ : Addr).add i = ⟨g, o + i, none⟩ := add_none _ _ _
    have hcell : w.cell? ⟨g, o + i, none⟩ = some cur[o + i] := by simp [World.cell?, hg, hi]
    have hfro : w.frozen? ⟨g, o + i, none⟩ = false := by
      obtain ⟨lo, hi'⟩ := fz
      simp only [World.frozen?, hg]
      exact hfz _ hi
    have hst : (store ((⟨g, o, none⟩ : Addr).add i) v).run P w = .ok () (w.setRow g (cur.setIfInBounds (o + i) v)) := by
      rw [hadd, run_store P w _ v _ (h1 v (by simp)), hcell]
      simp [hfro, setCell_eq_setRow w g (o + i) cur t fz v hg]
    have ih := run_put P g o t fz rest (i + 1) (cur.setIfInBounds (o + i) v) (w.setRow g (cur.setIfInBounds (o + i) v)) (setRow_heap w g cur _ t _ hg) (by simpa using hfz) (by simp at hl ⊢; omega) (fun x hx => h1 x (by simp [hx]))
    simp only [storeCells, Sem.run_bind, hst, Result.andThen_ok, ih, setRow_setRow]
    congr 3
    have e := list_seg_step cur.toList (o + i) v rest (by simp at hl ⊢; omega)
    simpa [Array.toList_setIfInBounds, Nat.add_assoc] using e

section
variable {P : Program} {W0 : World} {M : Nat → Prop} {ι : Nat → Option Info} {h : Nat → Option PB} {W : World}

theorem RH.read (hR : RH W0 ι M h W) {b : Nat} {pb : PB} {i : Info} (hM : M b) (hl : h b = some pb) (hi : ι b = some i) {o n : Nat} {l : List Value} (hc : cut pb.cells o n = some l) :
    ∃ l', l'.length = n ∧ LR ι l l' ∧ ∀ j v, l'[j]? = some v → W.cell? ((⟨i.g, i.sh + o, none⟩ : Addr).add j) = some v := by
  obtain ⟨i', rc, fr, hi', hg, hfz, hB, hp, hr, hs, hfit, hcell⟩ := hR.blk b pb hM hl
  rw [hi] at hi'
  injection hi' with e
  subst e
  obtain ⟨h1, h2, h3⟩ := cut_eq _ _ _ _ hc
  have hat : ∀ j, j < n → ((rc.toList.drop (i.sh + o)).take n)[j]? = rc[i.sh + o + j]? := fun j hj => by
    rw [List.getElem?_take, if_pos hj, List.getElem?_drop]
    simp
  have hlen : ((rc.toList.drop (i.sh + o)).take n).length = n := by
    rw [List.length_take, List.length_drop, Array.length_toList]
    rcases h2 with h2 | h2 <;> omega
  refine ⟨(rc.toList.drop (i.sh + o)).take n, hlen, ⟨by rw [hlen, h1], fun j u v hu hv => ?_⟩, fun j v hv => ?_⟩
  · have hj : j < n := by rw [← h1]; exact (List.getElem?_eq_some_iff.1 hu).1
    rw [h3 j hj] at hu
    rw [hat j hj] at hv
    obtain ⟨v', hv', hr'⟩ := hcell _ _ hu
    rw [← Nat.add_assoc, hv] at hv'
    injection hv' with e
    rw [e]; exact hr'
  · have hj : j < n := by rw [← hlen]; exact (List.getElem?_eq_some_iff.1 hv).1
    rw [hat j hj] at hv
    rw [add_none]
    simp [World.cell?, hg, hv]

theorem RH.read1 (hR : RH W0 ι M h W) {b : Nat} {pb : PB} {i : Info} (hM : M b) (hl : h b = some pb) (hi : ι b = some i) {o : Nat} {u : Value} (hc : pb.cells[o]? = some u) :
    ∃ v, W.cell? ⟨i.g, i.sh + o, none⟩ = some v ∧ VR ι u v := by
  obtain ⟨i', rc, fr, hi', hg, hfz, hB, hp, hr, hs, hfit, hcell⟩ := hR.blk b pb hM hl
  rw [hi] at hi'
  injection hi' with e
  subst e
  obtain ⟨v, hv, hr'⟩ := hcell _ _ hc
  exact ⟨v, by simp [World.cell?, hg, hv], hr'⟩

/-- What any change to one real block of ours, and to one of our blocks that lies in it, leaves. -/
theorem Post.row (hR : RH W0 ι M h W) {b : Nat} {pb : PB} {i : Info} (hM : M b) (hl : h b = some pb) (hi : ι b = some i) {rc : Array Value} {t : TypeId} {fr : Nat × Nat}
    (hg : W.heap[i.g]? = some (.cells rc t fr)) (hB : W0.heap.size ≤ i.g) (rc' : Array Value) : Below W0.heap.size W0 (W.setRow i.g rc') ∧ (W.setRow i.g rc').heap.size = W.heap.size ∧
      ∀ c pc j, M c → c ≠ b → h c = some pc → ι c = some j → (W.setRow i.g rc').heap[j.g]? = W.heap[j.g]? := by
  refine ⟨hR.below.trans ⟨rfl, rfl, rfl, by simp [World.setRow], fun k hk => setRow_other _ _ _ _ (by omega)⟩, by simp [World.setRow], fun c pc j hc hne hlc hj => ?_⟩
  refine setRow_other _ _ _ _ fun e => hne (hR.inj c b j i hc hM (by simp [hlc]) (by simp [hl]) hj hi e)

theorem Post.put (hR : RH W0 ι M h W) {b : Nat} {pb : PB} {i : Info} (hM : M b) (hl : h b = some pb) (hi : ι b = some i) {o : Nat} {c c' r : List Value} (hc : splice pb.cells o c = some r)
    (hcc : LR ι c c') (ho : ∀ v ∈ c', v.oneCell' = true) (n n' : Nat) (k : Nat) (a : Nat) (ha : a + k = i.sh + o) :
    ∃ W', (storeCells ⟨i.g, a, none⟩ c' k).run P W = .ok () W' ∧ Post W0 M ι h W n ι (upd h b (some ⟨r, pb.elem, pb.stride⟩)) W' n' := by
  obtain ⟨i', rc, fr, hi', hg, hfz, hB, hp, hr, hs, hfit, hcell⟩ := hR.blk b pb hM hl
  rw [hi] at hi'
  injection hi' with e
  subst e
  obtain ⟨h1, h2⟩ := splice_eq _ _ _ _ hc
  have hlen := hcc.1
  have hrun := run_put P i.g a pb.elem fr c' k rc W hg hfz (by omega) ho
  refine ⟨_, hrun, ?_⟩
  rw [ha]
  generalize hrc : (rc.toList.take (i.sh + o) ++ c' ++ rc.toList.drop (i.sh + o + c'.length)).toArray = rc'
  have hsz : rc'.size = rc.size := by
    rw [← hrc]
    simp
    omega
  have hat : ∀ j, rc'[j]? = if j < i.sh + o then rc[j]? else if j < i.sh + o + c'.length then c'[j - (i.sh + o)]? else rc[j]? := fun j => by
    rw [← hrc]
    have hl1 : (rc.toList.take (i.sh + o)).length = i.sh + o := by simp; omega
    simp only [List.getElem?_toArray, List.append_assoc, List.getElem?_append, hl1]
    by_cases h1 : j < i.sh + o
    · simp [h1]
    · by_cases h2 : j < i.sh + o + c'.length
      · rw [if_neg h1, if_pos (by omega), if_neg h1, if_pos h2]
      · rw [if_neg h1, if_neg (by omega), if_neg h1, if_neg h2, List.getElem?_drop, show i.sh + o + c'.length + (j - (i.sh + o) - c'.length) = j by omega]
        simp
  obtain ⟨hb1, hb2, hb3⟩ := Post.row hR hM hl hi hg hB rc'
  have hrl : r.length = pb.cells.length := by rw [h2]; simp; omega
  refine ⟨⟨hb1, fun x px hMx hlx => ?_, fun x y jx jy hx hy hlx hly => hR.inj x y jx jy hx hy ?_ ?_⟩, fun _ _ e => e, fun x e e' => absurd e e', by rw [hb2]; exact Nat.le_refl _, fun g hlt hno => setRow_other _ _ _ _ fun e => hno b i hM (by simp [hl]) hi e.symm,
    fun x j hMx hlx hj => .inl ⟨x, j, hMx, ?_, hj, rfl⟩⟩
  · by_cases hx : x = b
    · subst hx
      rw [upd_same] at hlx
      injection hlx with hlx
      subst hlx
      refine ⟨i, rc', fr, hi, setRow_heap _ _ _ _ _ _ hg, by rw [hsz]; exact hfz, hB, by rw [hp]; exact hrl.symm, by rw [hsz]; exact hr, hs, hfit, fun j u hu => ?_⟩
      simp only [h2] at hu
      rw [hat]
      have hl1 : (pb.cells.take o).length = o := by simp; omega
      rw [List.append_assoc, List.getElem?_append, hl1] at hu
      by_cases h3 : j < o
      · rw [if_pos h3, List.getElem?_take, if_pos h3] at hu
        rw [if_pos (by omega)]
        exact hcell _ _ hu
      · rw [if_neg h3, List.getElem?_append] at hu
        rw [if_neg (by omega)]
        by_cases h4 : j - o < c.length
        · rw [if_pos h4] at hu
          obtain ⟨v, hv, hr'⟩ := hcc.at hu
          rw [if_pos (by omega)]
          exact ⟨v, by rw [← hv]; congr 1; omega, hr'⟩
        · rw [if_neg h4, List.getElem?_drop, show o + c.length + (j - o - c.length) = j by omega] at hu
          rw [if_neg (by omega)]
          exact hcell _ _ hu
    · rw [upd_other _ _ _ _ hx] at hlx
      obtain ⟨j, rd, fr', hj, hgj, q⟩ := hR.blk x px hMx hlx
      exact ⟨j, rd, fr', hj, by rw [hb3 x px j hMx hx hlx hj]; exact hgj, q⟩
  · by_cases hxb : x = b
    · subst hxb; simp [hl]
    · rwa [upd_other _ _ _ _ hxb] at hlx
  · by_cases hyb : y = b
    · subst hyb; simp [hl]
    · rwa [upd_other _ _ _ _ hyb] at hly
  · by_cases hxb : x = b
    · subst hxb; simp [hl]
    · rwa [upd_other _ _ _ _ hxb] at hlx

theorem Post.kill (hR : RH W0 ι M h W) (b n n' : Nat) : Post W0 M ι h W n ι (upd h b none) W n' := by
  have back : ∀ x, upd h b none x ≠ none → h x ≠ none := fun x hx => by
    by_cases e : x = b
    · subst e; simp at hx
    · rwa [upd_other _ _ _ _ e] at hx
  refine ⟨⟨hR.below, fun x px hMx hlx => ?_, fun x y jx jy hx hy hlx hly => hR.inj x y jx jy hx hy (back x hlx) (back y hly)⟩, fun _ _ e => e, fun x e e' => absurd e e', Nat.le_refl _, fun _ _ _ => rfl,
    fun x j hMx hlx hj => .inl ⟨x, j, hMx, back x hlx, hj, rfl⟩⟩
  by_cases e : x = b
  · subst e; simp at hlx
  · rw [upd_other _ _ _ _ e] at hlx
    exact hR.blk x px hMx hlx

theorem upd_ext {ι : Nat → Option Info} {n : Nat} (hf : ι n = none) (x : Option Info) : ∀ b i, ι b = some i → upd ι n x b = some i := fun b i e => by
  rw [upd_other]
  · exact e
  · intro e'
    subst e'
    rw [hf] at e
    cases e

theorem Post.made (hR : RH W0 ι M h W) {n : Nat} (hf : ι n = none) (cells : List Value) (rc : Array Value) (e st : Nat) (hsz : cells.length ≤ rc.size)
    (hrel : ∀ (j : Nat) (u : Value), cells[j]? = some u → ∃ v, rc[j]? = some v ∧ VR ι u v) :
    Post W0 M ι h W n (upd ι n (some ⟨W.heap.size, 0, cells.length, rc.size, st⟩)) (upd h n (some ⟨cells, e, st⟩)) (W.alloc (.cells rc e)) (n + 1) := by
  have hext := upd_ext hf (some ⟨W.heap.size, 0, cells.length, rc.size, st⟩)
  have hlt : ∀ x i, M x → h x ≠ none → ι x = some i → i.g < W.heap.size := fun x i hM hl hi => by
    cases hlx : h x with
    | none => exact absurd hlx hl
    | some pb =>
      obtain ⟨i', rc, fr, hi', hg, _⟩ := hR.blk x pb hM hlx
      rw [hi] at hi'
      injection hi' with e
      subst e
      exact (Array.getElem?_eq_some_iff.1 hg).1
  have hold : ∀ x i, x ≠ n → upd ι n (some ⟨W.heap.size, 0, cells.length, rc.size, st⟩) x = some i → ι x = some i := fun x i hx e => by rwa [upd_other _ _ _ _ hx] at e
  refine ⟨⟨hR.below.alloc hR.below.size _, fun x px hMx hlx => ?_, fun x y jx jy hx hy hlx hly ex ey hg => ?_⟩, hext, fun x e e' => ?_, by simp, fun g hg _ => Below.heap_alloc _ _ _ hg, fun x i hMx hlx hi => ?_⟩
  · by_cases hx : x = n
    · subst hx
      rw [upd_same] at hlx
      injection hlx with hlx
      subst hlx
      refine ⟨_, rc, (0, 0), upd_same _ _ _, heap_alloc_new _ _, fun j _ => by simp, hR.below.size, rfl, rfl, rfl, by simpa using hsz, fun j u hu => ?_⟩
      obtain ⟨v, hv, hr⟩ := hrel j u hu
      exact ⟨v, by simpa using hv, hr.mono hext⟩
    · rw [upd_other _ _ _ _ hx] at hlx
      obtain ⟨i, rd, fr', hi, hgi, h1, h2, h3, h4, h5, h6, h7⟩ := hR.blk x px hMx hlx
      refine ⟨i, rd, fr', hext _ _ hi, ?_, h1, h2, h3, h4, h5, h6, fun j u hu => ?_⟩
      · rw [Below.heap_alloc _ _ _ (hlt x i hMx (by simp [hlx]) hi)]; exact hgi
      · obtain ⟨v, hv, hr⟩ := h7 j u hu
        exact ⟨v, hv, hr.mono hext⟩
  · by_cases hxn : x = n
    · by_cases hyn : y = n
      · rw [hxn, hyn]
      · exfalso
        rw [upd_other _ _ _ _ hyn] at hly
        have := hlt y jy hy hly (hold y jy hyn ey)
        rw [hxn, upd_same] at ex
        injection ex with ex
        subst ex
        simp at hg
        omega
    · rw [upd_other _ _ _ _ hxn] at hlx
      by_cases hyn : y = n
      · exfalso
        have := hlt x jx hx hlx (hold x jx hxn ex)
        rw [hyn, upd_same] at ey
        injection ey with ey
        subst ey
        simp at hg
        omega
      · rw [upd_other _ _ _ _ hyn] at hly
        exact hR.inj x y jx jy hx hy hlx hly (hold x jx hxn ex) (hold y jy hyn ey) hg
  · by_cases hx : x = n
    · subst hx; omega
    · rw [upd_other _ _ _ _ hx] at e'; exact absurd e e'
  · by_cases hx : x = n
    · subst hx
      rw [upd_same] at hi
      injection hi with hi
      subst hi
      exact .inr (Nat.le_refl _)
    · rw [upd_other _ _ _ _ hx] at hlx
      exact .inl ⟨x, i, hMx, hlx, hold x i hx hi, rfl⟩

/-- A block of ours gives way to a new one that lies in the same real block. -/
theorem Post.moved (hR : RH W0 ι M h W) {b : Nat} {pb : PB} {i : Info} (hM : M b) (hl : h b = some pb) (hi : ι b = some i) {n : Nat} (hMn : M n) (hf : ι n = none)
    (cells : List Value) (sh st : Nat) (rc rc' : Array Value) (fr : Nat × Nat) (hg : W.heap[i.g]? = some (.cells rc pb.elem fr)) (hsz : rc'.size = rc.size) (hfit : sh + cells.length ≤ rc.size)
    (hrel : ∀ (j : Nat) (u : Value), cells[j]? = some u → ∃ v, rc'[sh + j]? = some v ∧ VR ι u v) :
    Post W0 M ι h W n (upd ι n (some ⟨i.g, sh, cells.length, rc.size, st⟩)) (upd (upd h b none) n (some ⟨cells, pb.elem, st⟩)) (W.setRow i.g rc') (n + 1) := by
  obtain ⟨i', rc0, fr0, hi', hg', hfz, hB, hp, hr, hs, hfit', hcell⟩ := hR.blk b pb hM hl
  rw [hi] at hi'
  injection hi' with e
  subst e
  rw [hg] at hg'
  injection hg' with hg'
  injection hg' with e1 e2 e3
  subst e1
  subst e3
  have hext := upd_ext hf (some ⟨i.g, sh, cells.length, rc.size, st⟩)
  have hbn : b ≠ n := fun e => by subst e; rw [hi] at hf; cases hf
  obtain ⟨hb1, hb2, hb3⟩ := Post.row hR hM hl hi hg hB rc'
  have hold : ∀ x i', x ≠ n → upd ι n (some ⟨i.g, sh, cells.length, rc.size, st⟩) x = some i' → ι x = some i' := fun x i hx e => by rwa [upd_other _ _ _ _ hx] at e
  have live : ∀ x, x ≠ n → upd (upd h b none) n (some ⟨cells, pb.elem, st⟩) x ≠ none → x ≠ b ∧ h x ≠ none := fun x hx hlx => by
    rw [upd_other _ _ _ _ hx] at hlx
    by_cases e : x = b
    · subst e; simp at hlx
    · exact ⟨e, by rwa [upd_other _ _ _ _ e] at hlx⟩
  refine ⟨⟨hb1, fun x px hMx hlx => ?_, fun x y jx jy hx hy hlx hly ex ey hgg => ?_⟩, hext, fun x e e' => ?_, by rw [hb2]; exact Nat.le_refl _,
    fun g hlt hno => setRow_other _ _ _ _ fun e => hno b i hM (by simp [hl]) hi e.symm, fun x i' hMx hlx hi' => ?_⟩
  · by_cases hx : x = n
    · subst hx
      rw [upd_same] at hlx
      injection hlx with hlx
      subst hlx
      refine ⟨_, rc', fr, upd_same _ _ _, setRow_heap _ _ _ _ _ _ hg, by rw [hsz]; exact hfz, hB, rfl, hsz.symm, rfl, hfit, fun j u hu => ?_⟩
      obtain ⟨v, hv, hr⟩ := hrel j u hu
      exact ⟨v, hv, hr.mono hext⟩
    · obtain ⟨hxb, hlx'⟩ := live x hx (by simp [hlx])
      rw [upd_other _ _ _ _ hx, upd_other _ _ _ _ hxb] at hlx
      obtain ⟨j, rd, fr', hj, hgj, h1, h2, h3, h4, h5, h6, h7⟩ := hR.blk x px hMx hlx
      refine ⟨j, rd, fr', hext _ _ hj, ?_, h1, h2, h3, h4, h5, h6, fun k u hu => ?_⟩
      · rw [hb3 x px j hMx hxb hlx hj]; exact hgj
      · obtain ⟨v, hv, hr⟩ := h7 k u hu
        exact ⟨v, hv, hr.mono hext⟩
  · by_cases hxn : x = n
    · by_cases hyn : y = n
      · rw [hxn, hyn]
      · exfalso
        obtain ⟨hyb, hly'⟩ := live y hyn hly
        rw [hxn, upd_same] at ex
        injection ex with ex
        subst ex
        exact hyb (hR.inj y b jy i hy hM hly' (by simp [hl]) (hold y jy hyn ey) hi hgg.symm)
    · obtain ⟨hxb, hlx'⟩ := live x hxn hlx
      by_cases hyn : y = n
      · exfalso
        rw [hyn, upd_same] at ey
        injection ey with ey
        subst ey
        exact hxb (hR.inj x b jx i hx hM hlx' (by simp [hl]) (hold x jx hxn ex) hi hgg)
      · obtain ⟨hyb, hly'⟩ := live y hyn hly
        exact hR.inj x y jx jy hx hy hlx' hly' (hold x jx hxn ex) (hold y jy hyn ey) hgg
  · by_cases hx : x = n
    · subst hx; omega
    · rw [upd_other _ _ _ _ hx] at e'; exact absurd e e'
  · by_cases hx : x = n
    · subst hx
      rw [upd_same] at hi'
      injection hi' with hi'
      subst hi'
      exact .inl ⟨b, i, hM, by simp [hl], hi, rfl⟩
    · obtain ⟨hxb, hlx'⟩ := live x hx hlx
      exact .inl ⟨x, i', hMx, hlx', hold x i' hx hi', rfl⟩
end
end Go.Proofs.YtoimffkejoeadaaGreatDoor.Vm
