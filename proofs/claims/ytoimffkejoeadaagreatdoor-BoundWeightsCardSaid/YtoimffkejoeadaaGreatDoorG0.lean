/- What the printed texts on functions share. -/
import Derived.Test.YtoimffkejoeadaaGreatDoorAwk0
import Derived.Test.YtoimffkejoeadaaGreatDoorW9
namespace Go.Proofs.YtoimffkejoeadaaGreatDoor.Vm
open Go
set_option maxRecDepth 100000
set_option linter.unusedVariables false
noncomputable section
def orA : FuncId → List Value → Option Value := orcs [10, 17]
def call (E : Addr → Option Value) : WC := Wc Tryz.prog E mt orA
theorem loop_of {P : Program} {E : Addr → Option Value} {m : List Meth} {o : FuncId → List Value → Option Value} {nt : Nat} {c : Code} {L : List Nat} {kn : WF → WS → Prop} {ke : Nat → WF → WS → Prop} {kr : WF → WS → Prop} {f : WF} {ws : WS} (p : List Nat)
    (h1 : (Nat.ble nt 256 && L.all fun t => Nat.blt t 256) = true) (h2 : slotsOk nt c = true) (h3 : loopAt p c ⟨L, [], L⟩ = true) (h : wat P E m o (p ++ [0]) c ⟨L, [], L⟩ kn ke kr f ws) : wat P E m o p c ⟨L, [], L⟩ kn ke kr f ws := by
  rw [Bool.and_eq_true] at h1
  have hl : Low L := fun t ht => Nat.le_of_ble_eq_true (List.all_eq_true.1 h1.2 t ht)
  exact wat_loop (Nat.le_of_ble_eq_true h1.1) p c _ h2 ⟨hl, fun id t ht => (by cases ht), hl⟩ kn ke kr f ws h3 h
theorem cast_of {a b : Prop} (e : a = b) (h : b) : a := e.symm ▸ h
theorem call_mono {E : Addr → Option Value} {g : FuncId} {args : List Value} {s : WS} {Q Q' : KV} (h : call E g args s Q) (hq : ∀ v s, Q v s → Q' v s) : call E g args s Q' := Wc.mono h hq
end
end Go.Proofs.YtoimffkejoeadaaGreatDoor.Vm
