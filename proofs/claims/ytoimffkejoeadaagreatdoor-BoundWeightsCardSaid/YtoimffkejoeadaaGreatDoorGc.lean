/- What the logic over the machine says of these functions' code. Printed by a program of ours (wip/tools/Gen.lean). -/
import Derived.Test.YtoimffkejoeadaaGreatDoorG0
namespace Go.Proofs.YtoimffkejoeadaaGreatDoor.Vm
open Go
set_option maxRecDepth 100000
set_option linter.unusedVariables false
noncomputable section
namespace law11_At
/-! wharfage/wharfagelaw11.At -/
def body : Code := match Tryz.f44.body with
  | some c => c
  | none => .skip
def at_ (E : Addr → Option Value) (p : List Nat) (Q : KV) : KF := wat Tryz.prog E mt orA p body ⟨[4], [], [4]⟩ (wret Tryz.prog E [.tmp 4] Q) (fun _ _ _ => False) (wret Tryz.prog E [.tmp 4] Q)
def ac (C : WC) (E : Addr → Option Value) (T : List (List Nat × KF)) (p : List Nat) (Q : KV) : KF := watc Tryz.prog E mt orA C T p [] body ⟨[4], [], [4]⟩ (wret Tryz.prog E [.tmp 4] Q) (fun _ _ _ => False) (wret Tryz.prog E [.tmp 4] Q)
theorem cut (E : Addr → Option Value) (p : List Nat) (Q : KV) (f : WF) (s : WS) (qs : List (List Nat × List Nat)) (hq : (qs.all fun x => eqL x.1.reverse x.2) = true) (h : ac (call E) E (qs.map fun x => (x.1, at_ E x.2 Q)) p Q f s) : at_ E p Q f s := wat_cut' qs hq p h
theorem ent (E : Addr → Option Value) (args : List Value) (s : WS) (Q : KV) (hl : (Nat.ble Tryz.f44.ntmps 256 && slotsOk Tryz.f44.ntmps body && Tryz.f44.results.toList.all (resultOk Tryz.f44.ntmps) && Nat.ble args.length Tryz.f44.ntmps) = true) (ho : orA 44 args = none) (h : at_ E [] Q (argF args 0) s) : call E 44 args s Q := wc_body (fn := Tryz.f44) (c := body) (by kernel_rfl) (by kernel_rfl) hl ho h
attribute [irreducible] at_ ac
def S0 (C : WC) (E : Addr → Option Value) (x0_0 : Int) (x0_1 : Int) (x0_2 : Int) (x0_3 : Int) (x0_4 : Int) (x0_5a : Option Addr) (x0_5n : Nat) (x0_5c : Nat) (x0_6a : Option Addr) (x0_6n : Nat) (x0_6c : Nat) (x0_7a : Option Addr) (x0_7n : Nat) (x0_7c : Nat) (x0_8a : Option Addr) (x0_8n : Nat) (x0_8c : Nat) (x1 : Int) (s : WS) (Q : KV) : Prop := wnew s [(.int .i64 x0_0), (.int .i64 x0_1), (.int .i64 x0_2), (.int .i64 x0_3), (.int .i64 x0_4), (.slice x0_5a x0_5n x0_5c), (.slice x0_6a x0_6n x0_6c), (.slice x0_7a x0_7n x0_7c), (.slice x0_8a x0_8n x0_8c)] 34 9 fun a1 s2 => ∃ y3a : Option Addr, ∃ y3n : Nat, ∃ y3c : Nat, rd E s2.h (padd a1 5) = some (.slice y3a y3n y3c) ∧ Q (.int .i64 (IntKind.wrap .i64 ((IntKind.wrap .i64 ((1 : Int) + ((y3n : Nat) : Int))) + x1))) s2
theorem e0 (E : Addr → Option Value) (x0_0 : Int) (x0_1 : Int) (x0_2 : Int) (x0_3 : Int) (x0_4 : Int) (x0_5a : Option Addr) (x0_5n : Nat) (x0_5c : Nat) (x0_6a : Option Addr) (x0_6n : Nat) (x0_6c : Nat) (x0_7a : Option Addr) (x0_7n : Nat) (x0_7c : Nat) (x0_8a : Option Addr) (x0_8n : Nat) (x0_8c : Nat) (x1 : Int) (s : WS) (Q : KV) (C : WC) : ac C E [] [] Q [(0, (.agg ⟨[(.int .i64 x0_0), (.int .i64 x0_1), (.int .i64 x0_2), (.int .i64 x0_3), (.int .i64 x0_4), (.slice x0_5a x0_5n x0_5c), (.slice x0_6a x0_6n x0_6c), (.slice x0_7a x0_7n x0_7c), (.slice x0_8a x0_8n x0_8c)]⟩)), (1, (.int .i64 x1))] s = S0 C E x0_0 x0_1 x0_2 x0_3 x0_4 x0_5a x0_5n x0_5c x0_6a x0_6n x0_6c x0_7a x0_7n x0_7c x0_8a x0_8n x0_8c x1 s Q := by kernel_rfl
theorem of (E : Addr → Option Value) (x0_0 : Int) (x0_1 : Int) (x0_2 : Int) (x0_3 : Int) (x0_4 : Int) (x0_5a : Option Addr) (x0_5n : Nat) (x0_5c : Nat) (x0_6a : Option Addr) (x0_6n : Nat) (x0_6c : Nat) (x0_7a : Option Addr) (x0_7n : Nat) (x0_7c : Nat) (x0_8a : Option Addr) (x0_8n : Nat) (x0_8c : Nat) (x1 : Int) (s : WS) (Q : KV) (h : S0 (call E) E x0_0 x0_1 x0_2 x0_3 x0_4 x0_5a x0_5n x0_5c x0_6a x0_6n x0_6c x0_7a x0_7n x0_7c x0_8a x0_8n x0_8c x1 s Q) : call E 44 [(.agg ⟨[(.int .i64 x0_0), (.int .i64 x0_1), (.int .i64 x0_2), (.int .i64 x0_3), (.int .i64 x0_4), (.slice x0_5a x0_5n x0_5c), (.slice x0_6a x0_6n x0_6c), (.slice x0_7a x0_7n x0_7c), (.slice x0_8a x0_8n x0_8c)]⟩), (.int .i64 x1)] s Q :=
  ent E [(.agg ⟨[(.int .i64 x0_0), (.int .i64 x0_1), (.int .i64 x0_2), (.int .i64 x0_3), (.int .i64 x0_4), (.slice x0_5a x0_5n x0_5c), (.slice x0_6a x0_6n x0_6c), (.slice x0_7a x0_7n x0_7c), (.slice x0_8a x0_8n x0_8c)]⟩), (.int .i64 x1)] s Q (by kernel_rfl) (by kernel_rfl) (cut E [] Q [(0, (.agg ⟨[(.int .i64 x0_0), (.int .i64 x0_1), (.int .i64 x0_2), (.int .i64 x0_3), (.int .i64 x0_4), (.slice x0_5a x0_5n x0_5c), (.slice x0_6a x0_6n x0_6c), (.slice x0_7a x0_7n x0_7c), (.slice x0_8a x0_8n x0_8c)]⟩)), (1, (.int .i64 x1))] s [] (by kernel_rfl) (cast_of (e0 E x0_0 x0_1 x0_2 x0_3 x0_4 x0_5a x0_5n x0_5c x0_6a x0_6n x0_6c x0_7a x0_7n x0_7c x0_8a x0_8n x0_8c x1 s Q (call E)) h))
end law11_At
namespace inst_Instance_Customer
/-! (wharfage/inst.Instance).Customer -/
def body : Code := match Tryz.f40.body with
  | some c => c
  | none => .skip
def at_ (E : Addr → Option Value) (p : List Nat) (Q : KV) : KF := wat Tryz.prog E mt orA p body ⟨[4], [], [4]⟩ (wret Tryz.prog E [.tmp 4] Q) (fun _ _ _ => False) (wret Tryz.prog E [.tmp 4] Q)
def ac (C : WC) (E : Addr → Option Value) (T : List (List Nat × KF)) (p : List Nat) (Q : KV) : KF := watc Tryz.prog E mt orA C T p [] body ⟨[4], [], [4]⟩ (wret Tryz.prog E [.tmp 4] Q) (fun _ _ _ => False) (wret Tryz.prog E [.tmp 4] Q)
theorem cut (E : Addr → Option Value) (p : List Nat) (Q : KV) (f : WF) (s : WS) (qs : List (List Nat × List Nat)) (hq : (qs.all fun x => eqL x.1.reverse x.2) = true) (h : ac (call E) E (qs.map fun x => (x.1, at_ E x.2 Q)) p Q f s) : at_ E p Q f s := wat_cut' qs hq p h
theorem ent (E : Addr → Option Value) (args : List Value) (s : WS) (Q : KV) (hl : (Nat.ble Tryz.f40.ntmps 256 && slotsOk Tryz.f40.ntmps body && Tryz.f40.results.toList.all (resultOk Tryz.f40.ntmps) && Nat.ble args.length Tryz.f40.ntmps) = true) (ho : orA 40 args = none) (h : at_ E [] Q (argF args 0) s) : call E 40 args s Q := wc_body (fn := Tryz.f40) (c := body) (by kernel_rfl) (by kernel_rfl) hl ho h
attribute [irreducible] at_ ac
def S0 (C : WC) (E : Addr → Option Value) (x0_0 : Int) (x0_1 : Int) (x0_2 : Int) (x0_3 : Int) (x0_4 : Int) (x0_5a : Option Addr) (x0_5n : Nat) (x0_5c : Nat) (x0_6a : Option Addr) (x0_6n : Nat) (x0_6c : Nat) (x0_7a : Option Addr) (x0_7n : Nat) (x0_7c : Nat) (x0_8a : Option Addr) (x0_8n : Nat) (x0_8c : Nat) (x1 : Int) (s : WS) (Q : KV) : Prop := wnew s [(.int .i64 x0_0), (.int .i64 x0_1), (.int .i64 x0_2), (.int .i64 x0_3), (.int .i64 x0_4), (.slice x0_5a x0_5n x0_5c), (.slice x0_6a x0_6n x0_6c), (.slice x0_7a x0_7n x0_7c), (.slice x0_8a x0_8n x0_8c)] 34 9 fun a1 s2 => ∃ y3a : Option Addr, ∃ y3n : Nat, ∃ y3c : Nat, rd E s2.h (padd a1 5) = some (.slice y3a y3n y3c) ∧ Q (.int .i64 (IntKind.wrap .i64 ((IntKind.wrap .i64 ((1 : Int) + ((y3n : Nat) : Int))) + x1))) s2
theorem e0 (E : Addr → Option Value) (x0_0 : Int) (x0_1 : Int) (x0_2 : Int) (x0_3 : Int) (x0_4 : Int) (x0_5a : Option Addr) (x0_5n : Nat) (x0_5c : Nat) (x0_6a : Option Addr) (x0_6n : Nat) (x0_6c : Nat) (x0_7a : Option Addr) (x0_7n : Nat) (x0_7c : Nat) (x0_8a : Option Addr) (x0_8n : Nat) (x0_8c : Nat) (x1 : Int) (s : WS) (Q : KV) (C : WC) : ac C E [] [] Q [(0, (.agg ⟨[(.int .i64 x0_0), (.int .i64 x0_1), (.int .i64 x0_2), (.int .i64 x0_3), (.int .i64 x0_4), (.slice x0_5a x0_5n x0_5c), (.slice x0_6a x0_6n x0_6c), (.slice x0_7a x0_7n x0_7c), (.slice x0_8a x0_8n x0_8c)]⟩)), (1, (.int .i64 x1))] s = S0 C E x0_0 x0_1 x0_2 x0_3 x0_4 x0_5a x0_5n x0_5c x0_6a x0_6n x0_6c x0_7a x0_7n x0_7c x0_8a x0_8n x0_8c x1 s Q := by kernel_rfl
theorem of (E : Addr → Option Value) (x0_0 : Int) (x0_1 : Int) (x0_2 : Int) (x0_3 : Int) (x0_4 : Int) (x0_5a : Option Addr) (x0_5n : Nat) (x0_5c : Nat) (x0_6a : Option Addr) (x0_6n : Nat) (x0_6c : Nat) (x0_7a : Option Addr) (x0_7n : Nat) (x0_7c : Nat) (x0_8a : Option Addr) (x0_8n : Nat) (x0_8c : Nat) (x1 : Int) (s : WS) (Q : KV) (h : S0 (call E) E x0_0 x0_1 x0_2 x0_3 x0_4 x0_5a x0_5n x0_5c x0_6a x0_6n x0_6c x0_7a x0_7n x0_7c x0_8a x0_8n x0_8c x1 s Q) : call E 40 [(.agg ⟨[(.int .i64 x0_0), (.int .i64 x0_1), (.int .i64 x0_2), (.int .i64 x0_3), (.int .i64 x0_4), (.slice x0_5a x0_5n x0_5c), (.slice x0_6a x0_6n x0_6c), (.slice x0_7a x0_7n x0_7c), (.slice x0_8a x0_8n x0_8c)]⟩), (.int .i64 x1)] s Q :=
  ent E [(.agg ⟨[(.int .i64 x0_0), (.int .i64 x0_1), (.int .i64 x0_2), (.int .i64 x0_3), (.int .i64 x0_4), (.slice x0_5a x0_5n x0_5c), (.slice x0_6a x0_6n x0_6c), (.slice x0_7a x0_7n x0_7c), (.slice x0_8a x0_8n x0_8c)]⟩), (.int .i64 x1)] s Q (by kernel_rfl) (by kernel_rfl) (cut E [] Q [(0, (.agg ⟨[(.int .i64 x0_0), (.int .i64 x0_1), (.int .i64 x0_2), (.int .i64 x0_3), (.int .i64 x0_4), (.slice x0_5a x0_5n x0_5c), (.slice x0_6a x0_6n x0_6c), (.slice x0_7a x0_7n x0_7c), (.slice x0_8a x0_8n x0_8c)]⟩)), (1, (.int .i64 x1))] s [] (by kernel_rfl) (cast_of (e0 E x0_0 x0_1 x0_2 x0_3 x0_4 x0_5a x0_5n x0_5c x0_6a x0_6n x0_6c x0_7a x0_7n x0_7c x0_8a x0_8n x0_8c x1 s Q (call E)) h))
end inst_Instance_Customer
namespace inst_Instance_Sat
/-! (wharfage/inst.Instance).Sat -/
def body : Code := match Tryz.f41.body with
  | some c => c
  | none => .skip
def at_ (E : Addr → Option Value) (p : List Nat) (Q : KV) : KF := wat Tryz.prog E mt orA p body ⟨[4], [], [4]⟩ (wret Tryz.prog E [.tmp 4] Q) (fun _ _ _ => False) (wret Tryz.prog E [.tmp 4] Q)
def ac (C : WC) (E : Addr → Option Value) (T : List (List Nat × KF)) (p : List Nat) (Q : KV) : KF := watc Tryz.prog E mt orA C T p [] body ⟨[4], [], [4]⟩ (wret Tryz.prog E [.tmp 4] Q) (fun _ _ _ => False) (wret Tryz.prog E [.tmp 4] Q)
theorem cut (E : Addr → Option Value) (p : List Nat) (Q : KV) (f : WF) (s : WS) (qs : List (List Nat × List Nat)) (hq : (qs.all fun x => eqL x.1.reverse x.2) = true) (h : ac (call E) E (qs.map fun x => (x.1, at_ E x.2 Q)) p Q f s) : at_ E p Q f s := wat_cut' qs hq p h
theorem ent (E : Addr → Option Value) (args : List Value) (s : WS) (Q : KV) (hl : (Nat.ble Tryz.f41.ntmps 256 && slotsOk Tryz.f41.ntmps body && Tryz.f41.results.toList.all (resultOk Tryz.f41.ntmps) && Nat.ble args.length Tryz.f41.ntmps) = true) (ho : orA 41 args = none) (h : at_ E [] Q (argF args 0) s) : call E 41 args s Q := wc_body (fn := Tryz.f41) (c := body) (by kernel_rfl) (by kernel_rfl) hl ho h
attribute [irreducible] at_ ac
def S0 (C : WC) (E : Addr → Option Value) (x0_0 : Int) (x0_1 : Int) (x0_2 : Int) (x0_3 : Int) (x0_4 : Int) (x0_5a : Option Addr) (x0_5n : Nat) (x0_5c : Nat) (x0_6a : Option Addr) (x0_6n : Nat) (x0_6c : Nat) (x0_7a : Option Addr) (x0_7n : Nat) (x0_7c : Nat) (x0_8a : Option Addr) (x0_8n : Nat) (x0_8c : Nat) (x1 : Int) (s : WS) (Q : KV) : Prop := wnew s [(.int .i64 x0_0), (.int .i64 x0_1), (.int .i64 x0_2), (.int .i64 x0_3), (.int .i64 x0_4), (.slice x0_5a x0_5n x0_5c), (.slice x0_6a x0_6n x0_6c), (.slice x0_7a x0_7n x0_7c), (.slice x0_8a x0_8n x0_8c)] 34 9 fun a1 s2 => Q (.int .i64 (IntKind.wrap .i64 ((1 : Int) + x1))) s2
theorem e0 (E : Addr → Option Value) (x0_0 : Int) (x0_1 : Int) (x0_2 : Int) (x0_3 : Int) (x0_4 : Int) (x0_5a : Option Addr) (x0_5n : Nat) (x0_5c : Nat) (x0_6a : Option Addr) (x0_6n : Nat) (x0_6c : Nat) (x0_7a : Option Addr) (x0_7n : Nat) (x0_7c : Nat) (x0_8a : Option Addr) (x0_8n : Nat) (x0_8c : Nat) (x1 : Int) (s : WS) (Q : KV) (C : WC) : ac C E [] [] Q [(0, (.agg ⟨[(.int .i64 x0_0), (.int .i64 x0_1), (.int .i64 x0_2), (.int .i64 x0_3), (.int .i64 x0_4), (.slice x0_5a x0_5n x0_5c), (.slice x0_6a x0_6n x0_6c), (.slice x0_7a x0_7n x0_7c), (.slice x0_8a x0_8n x0_8c)]⟩)), (1, (.int .i64 x1))] s = S0 C E x0_0 x0_1 x0_2 x0_3 x0_4 x0_5a x0_5n x0_5c x0_6a x0_6n x0_6c x0_7a x0_7n x0_7c x0_8a x0_8n x0_8c x1 s Q := by kernel_rfl
theorem of (E : Addr → Option Value) (x0_0 : Int) (x0_1 : Int) (x0_2 : Int) (x0_3 : Int) (x0_4 : Int) (x0_5a : Option Addr) (x0_5n : Nat) (x0_5c : Nat) (x0_6a : Option Addr) (x0_6n : Nat) (x0_6c : Nat) (x0_7a : Option Addr) (x0_7n : Nat) (x0_7c : Nat) (x0_8a : Option Addr) (x0_8n : Nat) (x0_8c : Nat) (x1 : Int) (s : WS) (Q : KV) (h : S0 (call E) E x0_0 x0_1 x0_2 x0_3 x0_4 x0_5a x0_5n x0_5c x0_6a x0_6n x0_6c x0_7a x0_7n x0_7c x0_8a x0_8n x0_8c x1 s Q) : call E 41 [(.agg ⟨[(.int .i64 x0_0), (.int .i64 x0_1), (.int .i64 x0_2), (.int .i64 x0_3), (.int .i64 x0_4), (.slice x0_5a x0_5n x0_5c), (.slice x0_6a x0_6n x0_6c), (.slice x0_7a x0_7n x0_7c), (.slice x0_8a x0_8n x0_8c)]⟩), (.int .i64 x1)] s Q :=
  ent E [(.agg ⟨[(.int .i64 x0_0), (.int .i64 x0_1), (.int .i64 x0_2), (.int .i64 x0_3), (.int .i64 x0_4), (.slice x0_5a x0_5n x0_5c), (.slice x0_6a x0_6n x0_6c), (.slice x0_7a x0_7n x0_7c), (.slice x0_8a x0_8n x0_8c)]⟩), (.int .i64 x1)] s Q (by kernel_rfl) (by kernel_rfl) (cut E [] Q [(0, (.agg ⟨[(.int .i64 x0_0), (.int .i64 x0_1), (.int .i64 x0_2), (.int .i64 x0_3), (.int .i64 x0_4), (.slice x0_5a x0_5n x0_5c), (.slice x0_6a x0_6n x0_6c), (.slice x0_7a x0_7n x0_7c), (.slice x0_8a x0_8n x0_8c)]⟩)), (1, (.int .i64 x1))] s [] (by kernel_rfl) (cast_of (e0 E x0_0 x0_1 x0_2 x0_3 x0_4 x0_5a x0_5n x0_5c x0_6a x0_6n x0_6c x0_7a x0_7n x0_7c x0_8a x0_8n x0_8c x1 s Q (call E)) h))
end inst_Instance_Sat
namespace set_Set_Less
/-! (wharfage/set.Set).Less -/
def body : Code := match Tryz.f39.body with
  | some c => c
  | none => .skip
def at_ (E : Addr → Option Value) (p : List Nat) (Q : KV) : KF := wat Tryz.prog E mt orA p body ⟨[4], [], [4]⟩ (wret Tryz.prog E [.tmp 4] Q) (fun _ _ _ => False) (wret Tryz.prog E [.tmp 4] Q)
def ac (C : WC) (E : Addr → Option Value) (T : List (List Nat × KF)) (p : List Nat) (Q : KV) : KF := watc Tryz.prog E mt orA C T p [] body ⟨[4], [], [4]⟩ (wret Tryz.prog E [.tmp 4] Q) (fun _ _ _ => False) (wret Tryz.prog E [.tmp 4] Q)
theorem cut (E : Addr → Option Value) (p : List Nat) (Q : KV) (f : WF) (s : WS) (qs : List (List Nat × List Nat)) (hq : (qs.all fun x => eqL x.1.reverse x.2) = true) (h : ac (call E) E (qs.map fun x => (x.1, at_ E x.2 Q)) p Q f s) : at_ E p Q f s := wat_cut' qs hq p h
theorem ent (E : Addr → Option Value) (args : List Value) (s : WS) (Q : KV) (hl : (Nat.ble Tryz.f39.ntmps 256 && slotsOk Tryz.f39.ntmps body && Tryz.f39.results.toList.all (resultOk Tryz.f39.ntmps) && Nat.ble args.length Tryz.f39.ntmps) = true) (ho : orA 39 args = none) (h : at_ E [] Q (argF args 0) s) : call E 39 args s Q := wc_body (fn := Tryz.f39) (c := body) (by kernel_rfl) (by kernel_rfl) hl ho h
attribute [irreducible] at_ ac
def S0 (C : WC) (E : Addr → Option Value) (x0 : Int) (x1 : Int) (s : WS) (Q : KV) : Prop := Q (.int .u64 (ibits .andNot .u64 x0 x1)) s
theorem e0 (E : Addr → Option Value) (x0 : Int) (x1 : Int) (s : WS) (Q : KV) (C : WC) : ac C E [] [] Q [(0, (.int .u64 x0)), (1, (.int .u64 x1))] s = S0 C E x0 x1 s Q := by kernel_rfl
theorem of (E : Addr → Option Value) (x0 : Int) (x1 : Int) (s : WS) (Q : KV) (h : S0 (call E) E x0 x1 s Q) : call E 39 [(.int .u64 x0), (.int .u64 x1)] s Q :=
  ent E [(.int .u64 x0), (.int .u64 x1)] s Q (by kernel_rfl) (by kernel_rfl) (cut E [] Q [(0, (.int .u64 x0)), (1, (.int .u64 x1))] s [] (by kernel_rfl) (cast_of (e0 E x0 x1 s Q (call E)) h))
end set_Set_Less
namespace set_Set_Without
/-! (wharfage/set.Set).Without -/
def body : Code := match Tryz.f42.body with
  | some c => c
  | none => .skip
def at_ (E : Addr → Option Value) (p : List Nat) (Q : KV) : KF := wat Tryz.prog E mt orA p body ⟨[4], [], [4]⟩ (wret Tryz.prog E [.tmp 4] Q) (fun _ _ _ => False) (wret Tryz.prog E [.tmp 4] Q)
def ac (C : WC) (E : Addr → Option Value) (T : List (List Nat × KF)) (p : List Nat) (Q : KV) : KF := watc Tryz.prog E mt orA C T p [] body ⟨[4], [], [4]⟩ (wret Tryz.prog E [.tmp 4] Q) (fun _ _ _ => False) (wret Tryz.prog E [.tmp 4] Q)
theorem cut (E : Addr → Option Value) (p : List Nat) (Q : KV) (f : WF) (s : WS) (qs : List (List Nat × List Nat)) (hq : (qs.all fun x => eqL x.1.reverse x.2) = true) (h : ac (call E) E (qs.map fun x => (x.1, at_ E x.2 Q)) p Q f s) : at_ E p Q f s := wat_cut' qs hq p h
theorem ent (E : Addr → Option Value) (args : List Value) (s : WS) (Q : KV) (hl : (Nat.ble Tryz.f42.ntmps 256 && slotsOk Tryz.f42.ntmps body && Tryz.f42.results.toList.all (resultOk Tryz.f42.ntmps) && Nat.ble args.length Tryz.f42.ntmps) = true) (ho : orA 42 args = none) (h : at_ E [] Q (argF args 0) s) : call E 42 args s Q := wc_body (fn := Tryz.f42) (c := body) (by kernel_rfl) (by kernel_rfl) hl ho h
attribute [irreducible] at_ ac
def b0 (E : Addr → Option Value) (x0 : Int) (x1 : Int) (s : WS) (Q : KV) : Prop := at_ E [1, 1] Q [(0, (.int .u64 x0)), (1, (.int .i64 x1))] s
def SB0 (C : WC) (E : Addr → Option Value) (x0 : Int) (x1 : Int) (s : WS) (Q : KV) : Prop := 0 ≤ x1 ∧ Q (.int .u64 (ibits .andNot .u64 x0 (IntKind.wrap .u64 ((1 : Int) * 2 ^ (min (Int.toNat x1) 64))))) s
theorem eB0 (E : Addr → Option Value) (x0 : Int) (x1 : Int) (s : WS) (Q : KV) (C : WC) : ac C E [] [1, 1] Q [(0, (.int .u64 x0)), (1, (.int .i64 x1))] s = SB0 C E x0 x1 s Q := by kernel_rfl
theorem b0_of (E : Addr → Option Value) (x0 : Int) (x1 : Int) (s : WS) (Q : KV) (h : SB0 (call E) E x0 x1 s Q) : b0 E x0 x1 s Q :=
  cut E [1, 1] Q [(0, (.int .u64 x0)), (1, (.int .i64 x1))] s [] (by kernel_rfl) (cast_of (eB0 E x0 x1 s Q (call E)) h)
def S0 (C : WC) (E : Addr → Option Value) (B0 : Int → Int → WS → Prop) (x0 : Int) (x1 : Int) (s : WS) (Q : KV) : Prop := C 71 [(.int .i64 x1)] s fun v1 s2 => ∃ y3 : Bool, v1 = (.bool y3) ∧ bif !y3 then (Q (.int .u64 x0) s2) else (B0 x0 x1 s2)
theorem e0 (E : Addr → Option Value) (x0 : Int) (x1 : Int) (s : WS) (Q : KV) (C : WC) (KB0 : KF) : ac C E [([1, 1], KB0)] [] Q [(0, (.int .u64 x0)), (1, (.int .i64 x1))] s = S0 C E (fun x0 x1 s => KB0 [(0, (.int .u64 x0)), (1, (.int .i64 x1))] s) x0 x1 s Q := by kernel_rfl
theorem of (E : Addr → Option Value) (x0 : Int) (x1 : Int) (s : WS) (Q : KV) (h : S0 (call E) E (fun x0 x1 s => b0 E x0 x1 s Q) x0 x1 s Q) : call E 42 [(.int .u64 x0), (.int .i64 x1)] s Q :=
  ent E [(.int .u64 x0), (.int .i64 x1)] s Q (by kernel_rfl) (by kernel_rfl) (cut E [] Q [(0, (.int .u64 x0)), (1, (.int .i64 x1))] s [([1, 1], [1, 1])] (by kernel_rfl) (cast_of (e0 E x0 x1 s Q (call E) (at_ E [1, 1] Q)) h))
end set_Set_Without
namespace set_in
/-! wharfage/set.in -/
def body : Code := match Tryz.f71.body with
  | some c => c
  | none => .skip
def at_ (E : Addr → Option Value) (p : List Nat) (Q : KV) : KF := wat Tryz.prog E mt orA p body ⟨[2], [], [2]⟩ (wret Tryz.prog E [.tmp 2] Q) (fun _ _ _ => False) (wret Tryz.prog E [.tmp 2] Q)
def ac (C : WC) (E : Addr → Option Value) (T : List (List Nat × KF)) (p : List Nat) (Q : KV) : KF := watc Tryz.prog E mt orA C T p [] body ⟨[2], [], [2]⟩ (wret Tryz.prog E [.tmp 2] Q) (fun _ _ _ => False) (wret Tryz.prog E [.tmp 2] Q)
theorem cut (E : Addr → Option Value) (p : List Nat) (Q : KV) (f : WF) (s : WS) (qs : List (List Nat × List Nat)) (hq : (qs.all fun x => eqL x.1.reverse x.2) = true) (h : ac (call E) E (qs.map fun x => (x.1, at_ E x.2 Q)) p Q f s) : at_ E p Q f s := wat_cut' qs hq p h
theorem ent (E : Addr → Option Value) (args : List Value) (s : WS) (Q : KV) (hl : (Nat.ble Tryz.f71.ntmps 256 && slotsOk Tryz.f71.ntmps body && Tryz.f71.results.toList.all (resultOk Tryz.f71.ntmps) && Nat.ble args.length Tryz.f71.ntmps) = true) (ho : orA 71 args = none) (h : at_ E [] Q (argF args 0) s) : call E 71 args s Q := wc_body (fn := Tryz.f71) (c := body) (by kernel_rfl) (by kernel_rfl) hl ho h
attribute [irreducible] at_ ac
def S0 (C : WC) (E : Addr → Option Value) (x0 : Int) (s : WS) (Q : KV) : Prop := bif decide (x0 ≥ (0 : Int)) then (Q (.bool (decide (x0 < (64 : Int)))) s) else (Q (.bool false) s)
theorem e0 (E : Addr → Option Value) (x0 : Int) (s : WS) (Q : KV) (C : WC) : ac C E [] [] Q [(0, (.int .i64 x0))] s = S0 C E x0 s Q := by kernel_rfl
theorem of (E : Addr → Option Value) (x0 : Int) (s : WS) (Q : KV) (h : S0 (call E) E x0 s Q) : call E 71 [(.int .i64 x0)] s Q :=
  ent E [(.int .i64 x0)] s Q (by kernel_rfl) (by kernel_rfl) (cut E [] Q [(0, (.int .i64 x0))] s [] (by kernel_rfl) (cast_of (e0 E x0 s Q (call E)) h))
end set_in
namespace set_Set_All
/-! (wharfage/set.Set).All -/
def body : Code := match Tryz.f43.body with
  | some c => c
  | none => .skip
def at_ (E : Addr → Option Value) (p : List Nat) (Q : KV) : KF := wat Tryz.prog E mt orA p body ⟨[2], [], [2]⟩ (wret Tryz.prog E [.tmp 2] Q) (fun _ _ _ => False) (wret Tryz.prog E [.tmp 2] Q)
def ac (C : WC) (E : Addr → Option Value) (T : List (List Nat × KF)) (p : List Nat) (Q : KV) : KF := watc Tryz.prog E mt orA C T p [] body ⟨[2], [], [2]⟩ (wret Tryz.prog E [.tmp 2] Q) (fun _ _ _ => False) (wret Tryz.prog E [.tmp 2] Q)
theorem cut (E : Addr → Option Value) (p : List Nat) (Q : KV) (f : WF) (s : WS) (qs : List (List Nat × List Nat)) (hq : (qs.all fun x => eqL x.1.reverse x.2) = true) (h : ac (call E) E (qs.map fun x => (x.1, at_ E x.2 Q)) p Q f s) : at_ E p Q f s := wat_cut' qs hq p h
theorem ent (E : Addr → Option Value) (args : List Value) (s : WS) (Q : KV) (hl : (Nat.ble Tryz.f43.ntmps 256 && slotsOk Tryz.f43.ntmps body && Tryz.f43.results.toList.all (resultOk Tryz.f43.ntmps) && Nat.ble args.length Tryz.f43.ntmps) = true) (ho : orA 43 args = none) (h : at_ E [] Q (argF args 0) s) : call E 43 args s Q := wc_body (fn := Tryz.f43) (c := body) (by kernel_rfl) (by kernel_rfl) hl ho h
theorem loop (E : Addr → Option Value) (p : List Nat) (Q : KV) (f : WF) (s : WS) (h3 : loopAt p body ⟨[2], [], [2]⟩ = true) (h : at_ E (p ++ [0]) Q f s) : at_ E p Q f s := loop_of (nt := 16) p (by kernel_rfl) (by kernel_rfl) h3 h
attribute [irreducible] at_ ac
def l0 (E : Addr → Option Value) (x0 : Int) (x3a : Option Addr) (x3n : Nat) (x3c : Nat) (s : WS) (Q : KV) : Prop := at_ E [1, 1, 0, 0] Q [(0, (.int .u64 x0)), (3, (.slice x3a x3n x3c))] s
def b1 (E : Addr → Option Value) (x0 : Int) (x3a : Option Addr) (x3n : Nat) (x3c : Nat) (s : WS) (Q : KV) : Prop := at_ E [1, 1, 0, 0, 0, 1] Q [(0, (.int .u64 x0)), (3, (.slice x3a x3n x3c))] s
def b2 (E : Addr → Option Value) (x3a : Option Addr) (x3n : Nat) (x3c : Nat) (s : WS) (Q : KV) : Prop := at_ E [1, 1, 1] Q [(3, (.slice x3a x3n x3c))] s
def SL0 (C : WC) (E : Addr → Option Value) (B1 : Int → Option Addr → Nat → Nat → WS → Prop) (B2 : Option Addr → Nat → Nat → WS → Prop) (x0 : Int) (x3a : Option Addr) (x3n : Nat) (x3c : Nat) (s : WS) (Q : KV) : Prop := bif x0 != (0 : Int) then (B1 x0 x3a x3n x3c s) else (B2 x3a x3n x3c s)
theorem eL0 (E : Addr → Option Value) (x0 : Int) (x3a : Option Addr) (x3n : Nat) (x3c : Nat) (s : WS) (Q : KV) (C : WC) (KB1 KB2 : KF) : ac C E [([1, 0, 0, 0, 1, 1], KB1), ([1, 1, 1], KB2)] [1, 1, 0, 0, 0] Q [(0, (.int .u64 x0)), (3, (.slice x3a x3n x3c))] s = SL0 C E (fun x0 x3a x3n x3c s => KB1 [(0, (.int .u64 x0)), (3, (.slice x3a x3n x3c))] s) (fun x3a x3n x3c s => KB2 [(3, (.slice x3a x3n x3c))] s) x0 x3a x3n x3c s Q := by kernel_rfl
theorem l0_of (E : Addr → Option Value) (x0 : Int) (x3a : Option Addr) (x3n : Nat) (x3c : Nat) (s : WS) (Q : KV) (h : SL0 (call E) E (fun x0 x3a x3n x3c s => b1 E x0 x3a x3n x3c s Q) (fun x3a x3n x3c s => b2 E x3a x3n x3c s Q) x0 x3a x3n x3c s Q) : l0 E x0 x3a x3n x3c s Q :=
  loop E [1, 1, 0, 0] Q [(0, (.int .u64 x0)), (3, (.slice x3a x3n x3c))] s (by kernel_rfl) (cut E [1, 1, 0, 0, 0] Q [(0, (.int .u64 x0)), (3, (.slice x3a x3n x3c))] s [([1, 0, 0, 0, 1, 1], [1, 1, 0, 0, 0, 1]), ([1, 1, 1], [1, 1, 1])] (by kernel_rfl) (cast_of (eL0 E x0 x3a x3n x3c s Q (call E) (at_ E [1, 1, 0, 0, 0, 1] Q) (at_ E [1, 1, 1] Q)) h))
def SB1 (C : WC) (E : Addr → Option Value) (L0 : Int → Option Addr → Nat → Nat → WS → Prop) (x0 : Int) (x3a : Option Addr) (x3n : Nat) (x3c : Nat) (s : WS) (Q : KV) : Prop := C 72 [(.int .u64 x0)] s fun v1 s2 => ∃ y3 : Int, v1 = (.int .i64 y3) ∧ wnew s2 [(.int .i64 y3)] 3 1 fun a4 s5 => wgrow E s5 3 1 8 x3a x3n x3c (.slice (some a4) 1 1) 1 fun a6 n7 c8 s9 => L0 (ibits .and .u64 x0 (IntKind.wrap .u64 (x0 - (1 : Int)))) a6 n7 c8 s9
theorem eB1 (E : Addr → Option Value) (x0 : Int) (x3a : Option Addr) (x3n : Nat) (x3c : Nat) (s : WS) (Q : KV) (C : WC) (KL0 : KF) : ac C E [([0, 0, 1, 1], KL0)] [1, 1, 0, 0, 0, 1] Q [(0, (.int .u64 x0)), (3, (.slice x3a x3n x3c))] s = SB1 C E (fun x0 x3a x3n x3c s => KL0 [(0, (.int .u64 x0)), (3, (.slice x3a x3n x3c))] s) x0 x3a x3n x3c s Q := by kernel_rfl
theorem b1_of (E : Addr → Option Value) (x0 : Int) (x3a : Option Addr) (x3n : Nat) (x3c : Nat) (s : WS) (Q : KV) (h : SB1 (call E) E (fun x0 x3a x3n x3c s => l0 E x0 x3a x3n x3c s Q) x0 x3a x3n x3c s Q) : b1 E x0 x3a x3n x3c s Q :=
  cut E [1, 1, 0, 0, 0, 1] Q [(0, (.int .u64 x0)), (3, (.slice x3a x3n x3c))] s [([0, 0, 1, 1], [1, 1, 0, 0])] (by kernel_rfl) (cast_of (eB1 E x0 x3a x3n x3c s Q (call E) (at_ E [1, 1, 0, 0] Q)) h)
def SB2 (C : WC) (E : Addr → Option Value) (x3a : Option Addr) (x3n : Nat) (x3c : Nat) (s : WS) (Q : KV) : Prop := Q (.slice x3a x3n x3c) s
theorem eB2 (E : Addr → Option Value) (x3a : Option Addr) (x3n : Nat) (x3c : Nat) (s : WS) (Q : KV) (C : WC) : ac C E [] [1, 1, 1] Q [(3, (.slice x3a x3n x3c))] s = SB2 C E x3a x3n x3c s Q := by kernel_rfl
theorem b2_of (E : Addr → Option Value) (x3a : Option Addr) (x3n : Nat) (x3c : Nat) (s : WS) (Q : KV) (h : SB2 (call E) E x3a x3n x3c s Q) : b2 E x3a x3n x3c s Q :=
  cut E [1, 1, 1] Q [(3, (.slice x3a x3n x3c))] s [] (by kernel_rfl) (cast_of (eB2 E x3a x3n x3c s Q (call E)) h)
def S0 (C : WC) (E : Addr → Option Value) (L0 : Int → Option Addr → Nat → Nat → WS → Prop) (x0 : Int) (s : WS) (Q : KV) : Prop := L0 x0 none 0 0 s
theorem e0 (E : Addr → Option Value) (x0 : Int) (s : WS) (Q : KV) (C : WC) (KL0 : KF) : ac C E [([0, 0, 1, 1], KL0)] [] Q [(0, (.int .u64 x0))] s = S0 C E (fun x0 x3a x3n x3c s => KL0 [(0, (.int .u64 x0)), (3, (.slice x3a x3n x3c))] s) x0 s Q := by kernel_rfl
theorem of (E : Addr → Option Value) (x0 : Int) (s : WS) (Q : KV) (h : S0 (call E) E (fun x0 x3a x3n x3c s => l0 E x0 x3a x3n x3c s Q) x0 s Q) : call E 43 [(.int .u64 x0)] s Q :=
  ent E [(.int .u64 x0)] s Q (by kernel_rfl) (by kernel_rfl) (cut E [] Q [(0, (.int .u64 x0))] s [([0, 0, 1, 1], [1, 1, 0, 0])] (by kernel_rfl) (cast_of (e0 E x0 s Q (call E) (at_ E [1, 1, 0, 0] Q)) h))
end set_Set_All
namespace set_Set_First
/-! (wharfage/set.Set).First -/
def body : Code := match Tryz.f72.body with
  | some c => c
  | none => .skip
def at_ (E : Addr → Option Value) (p : List Nat) (Q : KV) : KF := wat Tryz.prog E mt orA p body ⟨[2], [], [2]⟩ (wret Tryz.prog E [.tmp 2] Q) (fun _ _ _ => False) (wret Tryz.prog E [.tmp 2] Q)
def ac (C : WC) (E : Addr → Option Value) (T : List (List Nat × KF)) (p : List Nat) (Q : KV) : KF := watc Tryz.prog E mt orA C T p [] body ⟨[2], [], [2]⟩ (wret Tryz.prog E [.tmp 2] Q) (fun _ _ _ => False) (wret Tryz.prog E [.tmp 2] Q)
theorem cut (E : Addr → Option Value) (p : List Nat) (Q : KV) (f : WF) (s : WS) (qs : List (List Nat × List Nat)) (hq : (qs.all fun x => eqL x.1.reverse x.2) = true) (h : ac (call E) E (qs.map fun x => (x.1, at_ E x.2 Q)) p Q f s) : at_ E p Q f s := wat_cut' qs hq p h
theorem ent (E : Addr → Option Value) (args : List Value) (s : WS) (Q : KV) (hl : (Nat.ble Tryz.f72.ntmps 256 && slotsOk Tryz.f72.ntmps body && Tryz.f72.results.toList.all (resultOk Tryz.f72.ntmps) && Nat.ble args.length Tryz.f72.ntmps) = true) (ho : orA 72 args = none) (h : at_ E [] Q (argF args 0) s) : call E 72 args s Q := wc_body (fn := Tryz.f72) (c := body) (by kernel_rfl) (by kernel_rfl) hl ho h
attribute [irreducible] at_ ac
def b0 (E : Addr → Option Value) (x0 : Int) (s : WS) (Q : KV) : Prop := at_ E [1, 1] Q [(0, (.int .u64 x0))] s
def SB0 (C : WC) (E : Addr → Option Value) (x0 : Int) (s : WS) (Q : KV) : Prop := C 93 [(.int .u64 x0)] s fun v1 s2 => ∃ y3 : Int, v1 = (.int .i64 y3) ∧ Q (.int .i64 y3) s2
theorem eB0 (E : Addr → Option Value) (x0 : Int) (s : WS) (Q : KV) (C : WC) : ac C E [] [1, 1] Q [(0, (.int .u64 x0))] s = SB0 C E x0 s Q := by kernel_rfl
theorem b0_of (E : Addr → Option Value) (x0 : Int) (s : WS) (Q : KV) (h : SB0 (call E) E x0 s Q) : b0 E x0 s Q :=
  cut E [1, 1] Q [(0, (.int .u64 x0))] s [] (by kernel_rfl) (cast_of (eB0 E x0 s Q (call E)) h)
def S0 (C : WC) (E : Addr → Option Value) (B0 : Int → WS → Prop) (x0 : Int) (s : WS) (Q : KV) : Prop := bif x0 == (0 : Int) then (Q (.int .i64 (-1 : Int)) s) else (B0 x0 s)
theorem e0 (E : Addr → Option Value) (x0 : Int) (s : WS) (Q : KV) (C : WC) (KB0 : KF) : ac C E [([1, 1], KB0)] [] Q [(0, (.int .u64 x0))] s = S0 C E (fun x0 s => KB0 [(0, (.int .u64 x0))] s) x0 s Q := by kernel_rfl
theorem of (E : Addr → Option Value) (x0 : Int) (s : WS) (Q : KV) (h : S0 (call E) E (fun x0 s => b0 E x0 s Q) x0 s Q) : call E 72 [(.int .u64 x0)] s Q :=
  ent E [(.int .u64 x0)] s Q (by kernel_rfl) (by kernel_rfl) (cut E [] Q [(0, (.int .u64 x0))] s [([1, 1], [1, 1])] (by kernel_rfl) (cast_of (e0 E x0 s Q (call E) (at_ E [1, 1] Q)) h))
end set_Set_First
namespace math_bits_TrailingZeros64
/-! math/bits.TrailingZeros64 -/
def body : Code := match Tryz.f93.body with
  | some c => c
  | none => .skip
def at_ (E : Addr → Option Value) (p : List Nat) (Q : KV) : KF := wat Tryz.prog E mt orA p body ⟨[2], [], [2]⟩ (wret Tryz.prog E [.tmp 2] Q) (fun _ _ _ => False) (wret Tryz.prog E [.tmp 2] Q)
def ac (C : WC) (E : Addr → Option Value) (T : List (List Nat × KF)) (p : List Nat) (Q : KV) : KF := watc Tryz.prog E mt orA C T p [] body ⟨[2], [], [2]⟩ (wret Tryz.prog E [.tmp 2] Q) (fun _ _ _ => False) (wret Tryz.prog E [.tmp 2] Q)
theorem cut (E : Addr → Option Value) (p : List Nat) (Q : KV) (f : WF) (s : WS) (qs : List (List Nat × List Nat)) (hq : (qs.all fun x => eqL x.1.reverse x.2) = true) (h : ac (call E) E (qs.map fun x => (x.1, at_ E x.2 Q)) p Q f s) : at_ E p Q f s := wat_cut' qs hq p h
theorem ent (E : Addr → Option Value) (args : List Value) (s : WS) (Q : KV) (hl : (Nat.ble Tryz.f93.ntmps 256 && slotsOk Tryz.f93.ntmps body && Tryz.f93.results.toList.all (resultOk Tryz.f93.ntmps) && Nat.ble args.length Tryz.f93.ntmps) = true) (ho : orA 93 args = none) (h : at_ E [] Q (argF args 0) s) : call E 93 args s Q := wc_body (fn := Tryz.f93) (c := body) (by kernel_rfl) (by kernel_rfl) hl ho h
attribute [irreducible] at_ ac
def b0 (E : Addr → Option Value) (x0 : Int) (s : WS) (Q : KV) : Prop := at_ E [1, 1] Q [(0, (.int .u64 x0))] s
def SB0 (C : WC) (E : Addr → Option Value) (x0 : Int) (s : WS) (Q : KV) : Prop := 0 ≤ (58 : Int) ∧ 0 ≤ (Int.fdiv (IntKind.wrap .u64 ((ibits .and .u64 x0 (IntKind.wrap .u64 (0 - x0))) * (285870213051353865 : Int))) (2 ^ (min (Int.toNat (58 : Int)) 64))) ∧ (Int.fdiv (IntKind.wrap .u64 ((ibits .and .u64 x0 (IntKind.wrap .u64 (0 - x0))) * (285870213051353865 : Int))) (2 ^ (min (Int.toNat (58 : Int)) 64))) < ((64 : Nat) : Int) ∧ ∃ y1 : Int, rd E s.h (padd (⟨0, 0, none⟩) (Int.toNat (Int.fdiv (IntKind.wrap .u64 ((ibits .and .u64 x0 (IntKind.wrap .u64 (0 - x0))) * (285870213051353865 : Int))) (2 ^ (min (Int.toNat (58 : Int)) 64))) * 1)) = some (.int .u8 y1) ∧ Q (.int .i64 (IntKind.wrap .i64 y1)) s
theorem eB0 (E : Addr → Option Value) (x0 : Int) (s : WS) (Q : KV) (C : WC) : ac C E [] [1, 1] Q [(0, (.int .u64 x0))] s = SB0 C E x0 s Q := by kernel_rfl
theorem b0_of (E : Addr → Option Value) (x0 : Int) (s : WS) (Q : KV) (h : SB0 (call E) E x0 s Q) : b0 E x0 s Q :=
  cut E [1, 1] Q [(0, (.int .u64 x0))] s [] (by kernel_rfl) (cast_of (eB0 E x0 s Q (call E)) h)
def S0 (C : WC) (E : Addr → Option Value) (B0 : Int → WS → Prop) (x0 : Int) (s : WS) (Q : KV) : Prop := bif x0 == (0 : Int) then (Q (.int .i64 (64 : Int)) s) else (B0 x0 s)
theorem e0 (E : Addr → Option Value) (x0 : Int) (s : WS) (Q : KV) (C : WC) (KB0 : KF) : ac C E [([1, 1], KB0)] [] Q [(0, (.int .u64 x0))] s = S0 C E (fun x0 s => KB0 [(0, (.int .u64 x0))] s) x0 s Q := by kernel_rfl
theorem of (E : Addr → Option Value) (x0 : Int) (s : WS) (Q : KV) (h : S0 (call E) E (fun x0 s => b0 E x0 s Q) x0 s Q) : call E 93 [(.int .u64 x0)] s Q :=
  ent E [(.int .u64 x0)] s Q (by kernel_rfl) (by kernel_rfl) (cut E [] Q [(0, (.int .u64 x0))] s [([1, 1], [1, 1])] (by kernel_rfl) (cast_of (e0 E x0 s Q (call E) (at_ E [1, 1] Q)) h))
end math_bits_TrailingZeros64
end
end Go.Proofs.YtoimffkejoeadaaGreatDoor.Vm
