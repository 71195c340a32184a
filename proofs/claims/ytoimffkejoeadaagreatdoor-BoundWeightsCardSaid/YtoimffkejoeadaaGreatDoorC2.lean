/- The law's arguments, as they come in, are what the logic asks for. -/
import Derived.Test.YtoimffkejoeadaaGreatDoorS12
import Derived.Test.YtoimffkejoeadaaGreatDoorRows
import Derived.ProofKit
import Derived.Deep.Slices
import Derived.Lib.SmallJoins
import Derived.Lib.LaidTab
import Derived.MakeChecks
import Derived.Test.YtoimffkejoeadaaGreatDoorAwk14
import Derived.Test.YtoimffkejoeadaaGreatDoorAwk15
import Derived.Test.YtoimffkejoeadaaGreatDoorAwk16
namespace Go.Proofs.YtoimffkejoeadaaGreatDoor.Vm
open Go Go.ChangeShapes Go.WideShapes Go.ChangeAt Go.RowKit Go.Deep
set_option linter.unusedVariables false
set_option linter.unusedSimpArgs false
set_option maxRecDepth 10000
/-- What a world's cells hold, as the machine's outer reads. -/
def outE (W : World) : Addr → Option Value := fun a => match a.spot with
  | some _ => none
  | none => match W.cell? a with
    | some v => match atom v with
      | true => some v
      | false => none
    | none => none
theorem outE_ok {W : World} {a : Addr} {v : Value} (h : outE W a = some v) : W.cell? a = some v ∧ atom v = true := by
  unfold outE at h
  split at h
  · cases h
  · split at h
    · next u hu =>
      split at h
      · next ha => injection h with h; subst h; exact ⟨hu, ha⟩
      · cases h
    · cases h
theorem outE_of {W : World} {a : Addr} {v : Value} (h : W.cell? a = some v) (ha : atom v = true) : outE W a = some v := by
  unfold outE
  rw [World.cell?_spot h]
  simp only [h, ha]
theorem rd_out {W : World} {hh : Nat → Option PB} {a : Addr} {i : Nat} {v : Value} (hs : a.spot = none) (h : W.cell? (a.add i) = some v) (ha : atom v = true) : rd (outE W) hh (Vm.padd a i) = some v := by
  obtain ⟨b, o, sp⟩ := a
  simp only at hs
  subst hs
  rw [padd_ext]
  have e : Addr.add ⟨b, o, none⟩ i = ⟨b, o + i, none⟩ := padd_ext b o i
  rw [e] at h
  exact outE_of h ha
theorem slc_of {W : World} {hh : Nat → Option PB} {N : Nat} {α : Type} [Inhabited α] (z : Nat) (enc : α → List Value) (ok : α → Prop) {a : Addr} {len cap : Nat} (hs : a.spot = none) (hl : len ≤ cap)
    (h : ∀ i, i < len → ∃ x, ok x ∧ (∀ v ∈ enc x, atom v = true) ∧ ∀ j u, (enc x)[j]? = some u → W.cell? (a.add (i * z + j)) = some u) : ∃ D, Slc (outE W) hh N z enc (some a) len cap D ∧ ∀ x ∈ D, ok x := by
  obtain ⟨g, hg⟩ := choose_lt h
  refine ⟨(List.range len).map g, ⟨by simp, hl, fun ad had => ?_, fun _ => ⟨a, rfl⟩, fun ad had i x hx j u hu => ?_⟩, fun x hx => ?_⟩
  · injection had with had
    subst had
    exact .inl hs
  · injection had with had
    subst had
    have hi : i < len := by have := (List.getElem?_eq_some_iff.1 hx).1; simpa using this
    simp only [List.getElem?_map, List.getElem?_range hi, Option.map_some, Option.some.injEq] at hx
    subst hx
    obtain ⟨_, h2, h3⟩ := hg i hi
    exact rd_out hs (h3 j u hu) (h2 u (List.mem_of_getElem? hu))
  · obtain ⟨i, hi, rfl⟩ := List.mem_map.1 hx
    exact (hg i (List.mem_range.1 hi)).1
theorem u8_of {n : Int} (h : (Lit.int .u8 n).wf = true) : U8 n := by
  have e1 : IntKind.u8.min = 0 := rfl
  have e2 : IntKind.u8.max = 255 := rfl
  simp [Lit.wf, e1, e2] at h
  exact ⟨by omega, by omega⟩
theorem i8_of {n : Int} (h : (Lit.int .i8 n).wf = true) : -128 ≤ n ∧ n < 128 := by
  have e1 : IntKind.i8.min = -128 := rfl
  have e2 : IntKind.i8.max = 127 := rfl
  simp [Lit.wf, e1, e2] at h
  exact ⟨by omega, by omega⟩
theorem c5 : Tryz.prog.cellsOf 5 = 1 := by kernel_rfl
theorem c73 : Tryz.prog.cellsOf 73 = 2 := by kernel_rfl
theorem c75 : Tryz.prog.cellsOf 75 = 4 := by kernel_rfl
section
variable {H : Type} {enc : TypeId × Value → H} {W : World} {base : Nat} {spare : Nat → Bool} {held : Bool} {hh : Nat → Option PB} {N : Nat}
theorem open_sats {fuel : Nat} {v : Value} {x : DataW H × List MemPlace} (h : DataW.trod enc Tryz.prog W base spare held fuel 22 [v] = some x) (hsp : ∀ ad n c, v = .slice (some ad) n c → ad.spot = none) :
    ∃ a n c D, v = .slice a n c ∧ Slc (outE W) hh N 2 u8p a n c D ∧ (∀ y ∈ D, U8 y.1 ∧ U8 y.2) ∧ n ≤ 9223372036854775807 ∧ ∀ ad, a = some ad → ad.spot = none := by
  rcases open_slice Tryz.underlying22 h with ⟨hcs, _⟩ | ⟨a, len, cap, m, n, D, Pl, hcs, _, hl, hm, hmm, _, hx⟩
  · injection hcs with hcs
    exact ⟨none, 0, 0, [], hcs, Slc.nil, fun y hy => by simp at hy, by omega, fun ad had => by cases had⟩
  · injection hcs with hcs
    have hs := hsp a len cap hcs
    obtain ⟨L, h1, h2⟩ := slc_of (W := W) (hh := hh) (N := N) 2 u8p (fun y => U8 y.1 ∧ U8 y.2) hs hl fun i hi => by
      obtain ⟨cs', q1, q2⟩ := hx i (by rw [hmm]; split <;> omega)
      rw [c73] at q1
      obtain ⟨_, q3, q4⟩ := World.cells?_some q1
      obtain ⟨y0, y1, k, _, _, t0, t1⟩ := trod_struct2 Tryz.underlying73 q2
      rw [c5] at t0 t1
      match cs', q3 with
      | [d0, d1], _ =>
        obtain ⟨k0, e0, _, w0⟩ := DataW.trod_int Tryz.underlying5 t0
        obtain ⟨k1, e1, _, w1⟩ := DataW.trod_int Tryz.underlying5 t1
        simp at e0 e1
        subst e0 e1
        refine ⟨(k0, k1), ⟨u8_of w0, u8_of w1⟩, by simp [u8p, atom], fun j u hu => ?_⟩
        have hj : j < 2 := by have := (List.getElem?_eq_some_iff.1 hu).1; simpa using this
        rw [← add_add, q4 j hj]
        exact hu
    exact ⟨some a, len, cap, L, hcs, h1, h2, by unfold maxLen at hm; omega, fun ad had => by injection had with had; subst had; exact hs⟩
theorem open_custs {fuel : Nat} {v : Value} {x : DataW H × List MemPlace} (h : DataW.trod enc Tryz.prog W base spare held fuel 23 [v] = some x) (hsp : ∀ ad n c, v = .slice (some ad) n c → ad.spot = none) :
    ∃ a n c D, v = .slice a n c ∧ Slc (outE W) hh N 4 u8q a n c D ∧ (∀ y ∈ D, U8 y.1 ∧ U8 y.2.1 ∧ U8 y.2.2.1 ∧ U8 y.2.2.2) ∧ n ≤ 9223372036854775807 ∧ ∀ ad, a = some ad → ad.spot = none := by
  rcases open_slice Tryz.underlying23 h with ⟨hcs, _⟩ | ⟨a, len, cap, m, n, D, Pl, hcs, _, hl, hm, hmm, _, hx⟩
  · injection hcs with hcs
    exact ⟨none, 0, 0, [], hcs, Slc.nil, fun y hy => by simp at hy, by omega, fun ad had => by cases had⟩
  · injection hcs with hcs
    have hs := hsp a len cap hcs
    obtain ⟨L, h1, h2⟩ := slc_of (W := W) (hh := hh) (N := N) 4 u8q (fun y => U8 y.1 ∧ U8 y.2.1 ∧ U8 y.2.2.1 ∧ U8 y.2.2.2) hs hl fun i hi => by
      obtain ⟨cs', q1, q2⟩ := hx i (by rw [hmm]; split <;> omega)
      rw [c75] at q1
      obtain ⟨_, q3, q4⟩ := World.cells?_some q1
      obtain ⟨y0, y1, y2, y3, k, _, _, t0, t1, t2, t3⟩ := Go.Joins.trod_struct4 Tryz.underlying75 q2
      rw [c5] at t0 t1 t2 t3
      match cs', q3 with
      | [d0, d1, d2, d3], _ =>
        obtain ⟨k0, e0, _, w0⟩ := DataW.trod_int Tryz.underlying5 t0
        obtain ⟨k1, e1, _, w1⟩ := DataW.trod_int Tryz.underlying5 t1
        obtain ⟨k2, e2, _, w2⟩ := DataW.trod_int Tryz.underlying5 t2
        obtain ⟨k3, e3, _, w3⟩ := DataW.trod_int Tryz.underlying5 t3
        simp at e0 e1 e2 e3
        subst e0 e1 e2 e3
        refine ⟨(k0, k1, k2, k3), ⟨u8_of w0, u8_of w1, u8_of w2, u8_of w3⟩, by simp [u8q, atom], fun j u hu => ?_⟩
        have hj : j < 4 := by have := (List.getElem?_eq_some_iff.1 hu).1; simpa using this
        rw [← add_add, q4 j hj]
        exact hu
    exact ⟨some a, len, cap, L, hcs, h1, h2, by unfold maxLen at hm; omega, fun ad had => by injection had with had; subst had; exact hs⟩
theorem open_nums {fuel : Nat} {v : Value} {x : DataW H × List MemPlace} (h : DataW.trod enc Tryz.prog W base spare held fuel 24 [v] = some x) (hsp : ∀ ad n c, v = .slice (some ad) n c → ad.spot = none) :
    ∃ a n c D, v = .slice a n c ∧ Slc (outE W) hh N 1 u8s a n c D ∧ (∀ y ∈ D, U8 y) ∧ ∀ ad, a = some ad → ad.spot = none := by
  rcases open_ints Tryz.underlying24 Tryz.underlying5 c5 h with ⟨hcs, _⟩ | ⟨a, len, cap, zs, hcs, _, hl, hm, hz, _, hcell, hwz⟩
  · injection hcs with hcs
    exact ⟨none, 0, 0, [], hcs, Slc.nil, fun y hy => by simp at hy, fun ad had => by cases had⟩
  · injection hcs with hcs
    have hs := hsp a len cap hcs
    obtain ⟨L, h1, h2⟩ := slc_of (W := W) (hh := hh) (N := N) 1 u8s U8 hs hl fun i hi => by
      have hi' : i < zs.length := by rw [hz]; split <;> omega
      refine ⟨zs.getD i 0, u8_of (hwz _ (by rw [List.getD_eq_getElem?_getD, List.getElem?_eq_getElem hi']; exact List.getElem_mem hi')), by simp [u8s, atom], fun j u hu => ?_⟩
      have hj : j < 1 := by have := (List.getElem?_eq_some_iff.1 hu).1; simpa using this
      have hj0 : j = 0 := by omega
      subst hj0
      rw [Nat.mul_one, Nat.add_zero, hcell i hi']
      simpa using hu
    exact ⟨some a, len, cap, L, hcs, h1, h2, fun ad had => by injection had with had; subst had; exact hs⟩
theorem spot_of {P : Program} {r : Reach} {b0 : Nat} {t e : TypeId} {v : Value} (ht : P.underlying t = some (.slice e)) (h : Cell.okWide P W r b0 t v) : ∀ ad n c, v = .slice (some ad) n c → ad.spot = none := by
  intro ad n c hv
  subst hv
  unfold Cell.okWide at h
  simp only [ht] at h
  unfold Cell.ok at h
  simp only [ht] at h
  exact h.2.2.2.1
theorem open_small {r : Reach} {b0 : Nat} {v : Value} {d : DataW H} {p : List MemPlace} (hv : Value.okWide Tryz.prog W r b0 26 v) (h : DataW.Trod enc Tryz.prog W base spare held 26 v d p) :
    ∃ x D, v = SmV.v x ∧ SmOk (outE W) hh N x D ∧ plain v = true := by
  simp only [Value.okWide, Tryz.underlying26] at hv
  obtain ⟨cs, rfl, hsz, ts, hts, _, hrow⟩ := hv
  have hc : Tryz.prog.cellsOf 26 = 11 := by kernel_rfl
  have ht : Tryz.prog.cellTypes Tryz.prog.depth 26 = some [5, 5, 5, 5, 5, 22, 23, 24, 24, 4, 4] := by kernel_rfl
  have hts' := Option.some.inj (ht.symm.trans hts)
  subst hts'
  obtain ⟨fuel, hf⟩ := h
  obtain ⟨xs, n, _, _, hl, hlen, hfd⟩ := DataW.trod_struct Tryz.underlying26 hf
  rw [hc] at hsz
  obtain ⟨l⟩ := cs
  have hlx : xs.length = 11 := hlen
  match l, hsz, xs, hlx with
  | [c0, c1, c2, c3, c4, c5', c6, c7, c8, c9, c10], _, [x0, x1, x2, x3, x4, x5, x6, x7, x8, x9, x10], _ =>
    have k5 : Tryz.prog.cellsOf 5 = 1 := c5
    have k4 : Tryz.prog.cellsOf 4 = 1 := by kernel_rfl
    have k22 : Tryz.prog.cellsOf 22 = 1 := by kernel_rfl
    have k23 : Tryz.prog.cellsOf 23 = 1 := by kernel_rfl
    have k24 : Tryz.prog.cellsOf 24 = 1 := by kernel_rfl
    have f0 : DataW.trod enc Tryz.prog W base spare held n 5 (([c0, c1, c2, c3, c4, c5', c6, c7, c8, c9, c10].drop 0).take (Tryz.prog.cellsOf 5)) = some x0 := hfd 0 _ rfl
    have f1 : DataW.trod enc Tryz.prog W base spare held n 5 (([c0, c1, c2, c3, c4, c5', c6, c7, c8, c9, c10].drop 1).take (Tryz.prog.cellsOf 5)) = some x1 := hfd 1 _ rfl
    have f2 : DataW.trod enc Tryz.prog W base spare held n 5 (([c0, c1, c2, c3, c4, c5', c6, c7, c8, c9, c10].drop 2).take (Tryz.prog.cellsOf 5)) = some x2 := hfd 2 _ rfl
    have f3 : DataW.trod enc Tryz.prog W base spare held n 5 (([c0, c1, c2, c3, c4, c5', c6, c7, c8, c9, c10].drop 3).take (Tryz.prog.cellsOf 5)) = some x3 := hfd 3 _ rfl
    have f4 : DataW.trod enc Tryz.prog W base spare held n 5 (([c0, c1, c2, c3, c4, c5', c6, c7, c8, c9, c10].drop 4).take (Tryz.prog.cellsOf 5)) = some x4 := hfd 4 _ rfl
    have f5 : DataW.trod enc Tryz.prog W base spare held n 22 (([c0, c1, c2, c3, c4, c5', c6, c7, c8, c9, c10].drop 5).take (Tryz.prog.cellsOf 22)) = some x5 := hfd 5 _ rfl
    have f6 : DataW.trod enc Tryz.prog W base spare held n 23 (([c0, c1, c2, c3, c4, c5', c6, c7, c8, c9, c10].drop 6).take (Tryz.prog.cellsOf 23)) = some x6 := hfd 6 _ rfl
    have f7 : DataW.trod enc Tryz.prog W base spare held n 24 (([c0, c1, c2, c3, c4, c5', c6, c7, c8, c9, c10].drop 7).take (Tryz.prog.cellsOf 24)) = some x7 := hfd 7 _ rfl
    have f8 : DataW.trod enc Tryz.prog W base spare held n 24 (([c0, c1, c2, c3, c4, c5', c6, c7, c8, c9, c10].drop 8).take (Tryz.prog.cellsOf 24)) = some x8 := hfd 8 _ rfl
    have f9 : DataW.trod enc Tryz.prog W base spare held n 4 (([c0, c1, c2, c3, c4, c5', c6, c7, c8, c9, c10].drop 9).take (Tryz.prog.cellsOf 4)) = some x9 := hfd 9 _ rfl
    have f10 : DataW.trod enc Tryz.prog W base spare held n 4 (([c0, c1, c2, c3, c4, c5', c6, c7, c8, c9, c10].drop 10).take (Tryz.prog.cellsOf 4)) = some x10 := hfd 10 _ rfl
    rw [k5] at f0 f1 f2 f3 f4
    rw [k22] at f5
    rw [k23] at f6
    rw [k24] at f7 f8
    rw [k4] at f9 f10
    obtain ⟨n0, e0, _, w0⟩ := DataW.trod_int Tryz.underlying5 f0
    obtain ⟨n1, e1, _, w1⟩ := DataW.trod_int Tryz.underlying5 f1
    obtain ⟨n2, e2, _, w2⟩ := DataW.trod_int Tryz.underlying5 f2
    obtain ⟨n3, e3, _, w3⟩ := DataW.trod_int Tryz.underlying5 f3
    obtain ⟨n4, e4, _, w4⟩ := DataW.trod_int Tryz.underlying5 f4
    obtain ⟨n9, e9, _⟩ := DataW.trod_bool Tryz.underlying4 f9
    obtain ⟨n10, e10, _⟩ := DataW.trod_bool Tryz.underlying4 f10
    have g5 : DataW.trod enc Tryz.prog W base spare held n 22 [c5'] = some x5 := f5
    have g6 : DataW.trod enc Tryz.prog W base spare held n 23 [c6] = some x6 := f6
    have g7 : DataW.trod enc Tryz.prog W base spare held n 24 [c7] = some x7 := f7
    have g8 : DataW.trod enc Tryz.prog W base spare held n 24 [c8] = some x8 := f8
    have s5 : Cell.okWide Tryz.prog W r b0 22 c5' := by obtain ⟨u, hu, hk⟩ := hrow 5 c5' rfl; obtain rfl := Option.some.inj hu; exact hk
    have s6 : Cell.okWide Tryz.prog W r b0 23 c6 := by obtain ⟨u, hu, hk⟩ := hrow 6 c6 rfl; obtain rfl := Option.some.inj hu; exact hk
    have s7 : Cell.okWide Tryz.prog W r b0 24 c7 := by obtain ⟨u, hu, hk⟩ := hrow 7 c7 rfl; obtain rfl := Option.some.inj hu; exact hk
    have s8 : Cell.okWide Tryz.prog W r b0 24 c8 := by obtain ⟨u, hu, hk⟩ := hrow 8 c8 rfl; obtain rfl := Option.some.inj hu; exact hk
    obtain ⟨a5, m5, q5, D5, rfl, S5, u5, b5, p5⟩ := open_sats (hh := hh) (N := N) g5 (spot_of Tryz.underlying22 s5)
    obtain ⟨a6, m6, q6, D6, rfl, S6, u6, b6, p6⟩ := open_custs (hh := hh) (N := N) g6 (spot_of Tryz.underlying23 s6)
    obtain ⟨a7, m7, q7, D7, rfl, S7, u7, p7⟩ := open_nums (hh := hh) (N := N) g7 (spot_of Tryz.underlying24 s7)
    obtain ⟨a8, m8, q8, D8, rfl, S8, u8, p8⟩ := open_nums (hh := hh) (N := N) g8 (spot_of Tryz.underlying24 s8)
    simp [Value.cells] at e0 e1 e2 e3 e4 e9 e10
    subst e0 e1 e2 e3 e4 e9 e10
    refine ⟨⟨n0, n1, n2, n3, n4, a5, m5, q5, a6, m6, q6, a7, m7, q7, a8, m8, q8, n9, n10⟩, ⟨D5, D6, D7, D8⟩, rfl, ⟨u8_of w0, u8_of w1, u8_of w2, u8_of w3, u8_of w4, S5, S6, S7, S8, u5, u6, u7, u8, b5, b6⟩, ?_⟩
    have at_ : ∀ (a : Option Addr) (n c : Nat), (∀ ad, a = some ad → ad.spot = none) → atom (.slice a n c) = true := fun a n c h => by
      cases a with
      | none => rfl
      | some ad => show ad.spot.isNone = true; rw [h ad rfl]; rfl
    simp only [plain, atoms, at_ a5 m5 q5 p5, at_ a6 m6 q6 p6, at_ a7 m7 q7 p7, at_ a8 m8 q8 p8]
    rfl
end
end Go.Proofs.YtoimffkejoeadaaGreatDoor.Vm
/- The machine's tables are the program's. -/
namespace Go.Proofs.YtoimffkejoeadaaGreatDoor.Vm
open Go Go.RowKit
set_option linter.unusedVariables false
set_option linter.unusedSimpArgs false
set_option maxRecDepth 100000
theorem yes_ok {r : CR} (h : yes r = true) : ∃ s1, r = .ok (.bool true) s1 := by
  unfold yes at h
  split at h
  · exact ⟨_, rfl⟩
  · cases h
theorem follows_ok : Tryz.prog.follows .mixedOrders = true := by kernel_rfl
theorem meth4 : MethOk Tryz.prog ⟨207, "Pop", 164, none⟩ := fun a W => by kernel_rfl
theorem meth5 : MethOk Tryz.prog ⟨207, "Push", 165, none⟩ := fun a W => by kernel_rfl
theorem meth1 : MethOk Tryz.prog ⟨207, "Len", 161, some 203⟩ := fun a W r h => by
  have e : (method (Tryz.prog.types.size + Made.depth) 207 (.pointer (some a)) "Len").run Tryz.prog W = (loadVar 203 a >>= fun r => pure (161, r)).run Tryz.prog W := by kernel_rfl
  rw [e, Sem.run_bind, h]
  rfl
theorem meth2 : MethOk Tryz.prog ⟨207, "Less", 162, some 203⟩ := fun a W r h => by
  have e : (method (Tryz.prog.types.size + Made.depth) 207 (.pointer (some a)) "Less").run Tryz.prog W = (loadVar 203 a >>= fun r => pure (162, r)).run Tryz.prog W := by kernel_rfl
  rw [e, Sem.run_bind, h]
  rfl
theorem meth3 : MethOk Tryz.prog ⟨207, "Swap", 163, some 203⟩ := fun a W r h => by
  have e : (method (Tryz.prog.types.size + Made.depth) 207 (.pointer (some a)) "Swap").run Tryz.prog W = (loadVar 203 a >>= fun r => pure (163, r)).run Tryz.prog W := by kernel_rfl
  rw [e, Sem.run_bind, h]
  rfl
theorem mt_ok : ∀ m ∈ mt, MethOk Tryz.prog m := by
  intro m hm
  simp only [mt, List.mem_cons, List.not_mem_nil, or_false] at hm
  rcases hm with rfl | rfl | rfl | rfl | rfl
  · exact meth1
  · exact meth2
  · exact meth3
  · exact meth4
  · exact meth5
/-- The table's cells lie in the world. -/
def TabW (W : World) : Prop := ∀ a v, E0 a = some v → W.cell? a = some v
theorem E0_atom {a : Addr} {v : Value} (h : E0 a = some v) : atom v = true := by
  unfold E0 at h
  split at h
  · split at h
    · injection h with h; subst h; rfl
    · cases h
  · cases h
theorem TabW.below {W W' : World} (h : TabW W) (hb : Below W.heap.size W W') : TabW W' := fun a v ha => by
  have hc := h a v ha
  rw [← hc]
  exact hb.cell (World.block_lt_of_cell? _ _ hc)
theorem orc_none (W0 : World) : OrcOk Tryz.prog W0 (orcs []) := fun f args v h => by
  cases args with
  | nil => cases h
  | cons _ _ => cases h
theorem orc_one {W0 : World} (l : List FuncId) (h : ∀ f ∈ l, ∀ W, Below W0.heap.size W0 W → Calls Tryz.prog f #[] W fun e W' => e = .returned (.bool true) ∧ Below W.heap.size W W') : OrcOk Tryz.prog W0 (orcs l) := fun f args v hv => by
  cases args with
  | cons _ _ => cases hv
  | nil =>
    have hv : (bif l.any (Nat.beq f) then some (Value.bool true) else none) = some v := hv
    cases hl : l.any (Nat.beq f) with
    | false => rw [hl] at hv; cases hv
    | true =>
      rw [hl] at hv
      have hv : some (Value.bool true) = some v := hv
      injection hv with hv
      subst hv
      obtain ⟨g, hg, e⟩ := List.any_eq_true.1 hl
      have e : f = g := Nat.eq_of_beq_eq_true e
      subst e
      exact ⟨fun u hu => by simp at hu, rfl, h f hg⟩
/-- What an 'Awake' answers, in any world that bears the table. -/
def AwakeOk (f : FuncId) : Prop := ∀ W, TabW W → Calls Tryz.prog f #[] W fun e W' => e = .returned (.bool true) ∧ Below W.heap.size W W'
theorem awake_of {f : FuncId} (l : List FuncId) (hl : ∀ g ∈ l, AwakeOk g) (h : yes (runCall Tryz.prog E0 mt (orcs l) 1000 f [] start) = true) : AwakeOk f := fun W hW => by
  obtain ⟨s1, h⟩ := yes_ok h
  exact run_closed (fun a v ha => ⟨hW a v ha, E0_atom ha⟩) mt_ok (orc_one l fun g hg W' hb => hl g hg W' (hW.below hb)) follows_ok h rfl
theorem awake11 : AwakeOk 53 := awake_of [] (fun g hg => by simp at hg) awake11_runs
theorem awake14 : AwakeOk 28 := awake_of _ (fun g hg => by simp at hg; subst hg; exact awake11) awake14_runs
theorem awake15 : AwakeOk 10 := awake_of _ (fun g hg => by simp at hg; subst hg; exact awake14) awake15_runs
theorem awake16 : AwakeOk 17 := awake_of _ (fun g hg => by simp at hg; subst hg; exact awake15) awake16_runs
theorem orA_ok {W : World} (hW : TabW W) : OrcOk Tryz.prog W orA := orc_one _ fun f hf W' hb => by
  simp at hf
  rcases hf with rfl | rfl
  · exact awake15 W' (hW.below hb)
  · exact awake16 W' (hW.below hb)
end Go.Proofs.YtoimffkejoeadaaGreatDoor.Vm
