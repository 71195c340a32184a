/-
  PROVED: chapter 16's law BoundWeights answers true, changes nothing that was there, and never panics, whatever its input (BoundWeightsCardSaid).
  CONDITIONS: the table math/bits.deBruijn64tab holds when the call begins what the program's text lays (the row lists it, the given tie ties it to the text). Nothing else is asked of the input. The seat's repository is a pruned copy: the card says nothing of packages outside it.
  HOW: the general part by a logic over a machine of our own, that is proved sound for the model; the closed part (Awake) was run by the kernel over that machine.
-/
import Derived.Test.YtoimffkejoeadaaGreatDoorC2
import Derived.Test.YtoimffkejoeadaaGreatDoorCards
import Derived.Test.YtoimffkejoeadaaGreatDoorTie
import Derived.LaidMore
import Derived.OpenShut
import Derived.Carry
import Derived.Stop.Joined
import Derived.SevenTiedAt
namespace Go.Proofs.YtoimffkejoeadaaGreatDoor
open Go Go.ChangeShapes Go.WideShapes Go.ChangeAt Go.RowKit Vm
set_option linter.unusedVariables false
set_option linter.unusedSimpArgs false
set_option maxRecDepth 100000
theorem own : ownKnob Tryz.prog.godebug = none := by kernel_rfl
theorem laidOut : laidOutB Tryz.prog = true := by kernel_rfl
theorem gTab : Tryz.prog.globalNamed "math/bits.deBruijn64tab" = some 0 := by kernel_rfl
abbrev tabLaid : List (String × DataW Unit) := [("math/bits.deBruijn64tab", Rows.laid_math_bits_deBruijn64tab)]
/-- The door's own heap bears the table. -/
theorem door_met (os : Os) (args : Array Value) : laidMetH Tryz.prog tabLaid ((World.doorLaid Tryz.prog 400 os).forCall (fun _ _ => 0) ⟨#[], args, []⟩).memory :=
  laidMetH_of_parts3 (fuel := 8) (laidMet_of_run' 8 (by kernel_rfl) (by kernel_rfl)) (by kernel_rfl) (by kernel_rfl)
theorem tabW_of {W : World} (h : laidMetH Tryz.prog tabLaid W) : TabW W := by
  rw [MakeChecks.laidMetH_plain _ _ _ (by kernel_rfl)] at h
  have htab : Lib.TabIs Tryz.prog W "math/bits.deBruijn64tab" .u8 (tab.map fun (n : Nat) => (n : Int)) :=
    Lib.tabIs_of_head (k := .u8) (zs := tab.map fun (n : Nat) => (n : Int)) (rest := []) (t := 198) (e := 5) (n := 64) gTab (by kernel_rfl) (by kernel_rfl) Tryz.underlying5 c5 (by kernel_rfl) h
  intro a v ha
  unfold E0 at ha
  split at ha
  · next k =>
    split at ha
    · next u hu =>
      injection ha with ha
      subst ha
      have hk : k < tab.length := (List.getElem?_eq_some_iff.1 hu).1
      have := htab.cell gTab k (by simpa using hk)
      rw [this, List.getD_eq_getElem?_getD, List.getElem?_map, hu]
      rfl
    · cases ha
  · cases ha
theorem tabIn_of {W : World} (h : TabW W) : TabIn (outE W) := fun k v hv => outE_of (h _ _ (by unfold E0; simp only [hv])) rfl
theorem calls_ok {W : World} (hW : TabW W) {x : SmV} {D : SmD} (hx : SmOk (outE W) ws0.h ws0.n x D) (hp : plain x.v = true) {l : Int} (hl : U8 l) {s c : Int} (hs : -128 ≤ s ∧ s < 128) (hc : -128 ≤ c ∧ c < 128) :
    Calls Tryz.prog 6 #[x.v, .int .u8 l, .int .i8 s, .int .i8 c] W fun e W' => e = .returned (.bool true) ∧ Below W.heap.size W W' := by
  obtain ⟨n, rfl⟩ := Int.eq_ofNat_of_zero_le hl.1
  have hn : n < 256 := by have := hl.2; omega
  refine wc_run (P := Tryz.prog) (E := outE W) (mt := mt) (orc := orA) (v := .bool true) (fun a v h => outE_ok h) mt_ok (orA_ok hW) follows_ok (args := [x.v, .int .u8 n, .int .i8 s, .int .i8 c]) ?_ rfl ?_
  · intro u hu
    simp only [List.mem_cons, List.not_mem_nil, or_false] at hu
    rcases hu with rfl | rfl | rfl | rfl
    · exact hp
    · rfl
    · rfl
    · rfl
  · exact law_ok (s0 := ws0) (Q := fun u _ => u = .bool true) (tabIn_of hW) hx hn hs hc fun s' => rfl
def arg0 : Value := .agg #[.int .u8 0, .int .u8 0, .int .u8 0, .int .u8 0, .int .u8 0, .slice none 0 0, .slice none 0 0, .slice none 0 0, .slice none 0 0, .bool false, .bool false]
theorem lifted (os : Os) (started : os.Started) (H : Type) (enc : TypeId × Value → H) :
    ReturnsInHanded {} Tryz.checked os 6 .any (fun w args => (Rows.boundWeightsSpec.pre enc Tryz.prog Tryz.f6 [] false w args ∧ laidMetH Tryz.prog tabLaid w) ∧ sizedMet enc Tryz.prog Tryz.f6 (OpenSpec.ofChange Rows.boundWeightsSpec) false w args)
      (Rows.boundWeightsSpec.post enc Tryz.prog Tryz.f6 false true false false) := by
  refine returnsInHanded_of_change_and (C := Tryz.checked) (X := fun w _ => laidMetH Tryz.prog tabLaid w) (fun _ _ _ hh h => h.of_heap hh) own started (by kernel_rfl) Tryz.func6
    (ChangeSpec.witness_shaped (enc := enc) (C := Tryz.checked) (os := os) (X := fun w _ => laidMetH Tryz.prog tabLaid w) false (World.doorLaid Tryz.prog 400 os) #[arg0, .int .u8 0, .int .i8 0, .int .i8 0] 8 rfl (World.shaped_of_RefB (by kernel_rfl) (by kernel_rfl)) (by kernel_rfl) (by kernel_rfl) (by kernel_rfl) (door_met os _)) ?_
  intro W base args ds gs before hval0 hW _ _ hL _
  have hval : ∀ (j : Nat) t v, Tryz.f6.params[j]? = some t → args[j]? = some v → Value.okWide Tryz.prog W .any base t v := hval0
  have hW' := hW
  obtain ⟨p, q, hA0, hV, rfl, hfz, hnd⟩ := hW
  have hA : DataW.TrodAll enc Tryz.prog W 0 (fun _ => true) true Tryz.f6.params.toList args.toList ds p := hA0
  rw [Tryz.params6] at hA hval
  obtain ⟨v0, v1, v2, v3, d0, d1, d2, d3, p0, p1, p2, p3, rfl, rfl, rfl, h0, h1, h2, h3⟩ := trodAll_four hA
  obtain ⟨rfl, rfl⟩ := trodVars_none hV
  obtain ⟨l, rfl, rfl, rfl, wl⟩ := open_int Tryz.underlying5 (hval 1 5 v1 rfl rfl) h1
  obtain ⟨s, rfl, rfl, rfl, ws⟩ := open_int Tryz.underlying52 (hval 2 52 v2 rfl rfl) h2
  obtain ⟨c, rfl, rfl, rfl, wc⟩ := open_int Tryz.underlying52 (hval 3 52 v3 rfl rfl) h3
  obtain ⟨x, D, rfl, hx, hp⟩ := open_small (hh := ws0.h) (N := ws0.n) (hval 0 26 v0 rfl rfl) h0
  clear hA0 hval0
  simp only [List.append_nil] at hW'
  have hlt : ∀ y ∈ p0, y.block < W.heap.size := fun y hy => by simpa using hW'.lt y hy
  refine (calls_ok (tabW_of hL) hx hp (u8_of wl) (i8_of ws) (i8_of wc)).mono fun e W' ⟨he, hb⟩ => ?_
  subst he
  refine ⟨_, rfl, _, _, _, [], p0 ++ ([] ++ ([] ++ [])), [], hW', ?_, ?_, rfl, hb.frame _, fun h => by cases h⟩
  · exact trodAll_mk1 (shut_bool Tryz.underlying4 _)
  · exact trodAll_mk4 (Below.trod laidOut (by kernel_rfl) (of_decide_eq_true (by kernel_rfl)) h0 hb hlt) (shut_int Tryz.underlying5 wl) (shut_int Tryz.underlying52 ws) (shut_int Tryz.underlying52 wc)
theorem boundWeights_holds : Rows.BoundWeightsSaid :=
  OpenClaim.holds_of_wide 6 Tryz.f6 rfl rfl rfl rfl rfl rfl rfl ⟨rfl, rfl, rfl, rfl, rfl⟩ rfl rfl rfl rfl rfl (by kernel_rfl) Tryz.func6 (by kernel_rfl)
    (of_decide_eq_true (by kernel_rfl)) (by unfold Func.isWrapper; first | (rw [if_pos (by decide +kernel)]; kernel_rfl) | (rw [if_neg (by decide +kernel)]; exact ⟨rfl, rfl⟩))
    (fun os started H enc _ => lifted os started H enc)
theorem boundWeights_card : Rows.BoundWeightsCardSaid :=
  Claim7.holds_tied_plain_at .later [] [.data] true (true, "bc4e6b348a737c0816a3c270bca21d8e2f5f834eef64be21a6a86caae89a9f28") true
    boundWeights_holds (fun _ h => by cases h) (by kernel_rfl) (fun _ h => by cases h) boundWeights_row_tie rfl ⟨rfl, rfl⟩ (by kernel_rfl) rfl
    (fun f fn hf hfn => by
      obtain rfl : f = 6 := Option.some.inj ((show Tryz.prog.funcNamed "wharfage/wharfagelaw16.BoundWeights" = some 6 by kernel_rfl).symm.trans hf) |>.symm
      obtain rfl : fn = Tryz.f6 := (Option.some.inj (Tryz.func6.symm.trans hfn)).symm
      exact ⟨by kernel_rfl, fun j t ht => by
        rw [Tryz.params6] at ht
        have hm : t ∈ [26, 5, 52, 52] := by simpa using Array.mem_of_getElem? ht
        have hall : ([26, 5, 52, 52].all fun u => !Tryz.prog.wantsStandIn u) = true := by kernel_rfl
        exact (show Tryz.prog.wantsStandIn t = false by simpa using List.all_eq_true.1 hall t hm)⟩)
    (by kernel_rfl)
#print axioms boundWeights_card
end Go.Proofs.YtoimffkejoeadaaGreatDoor
