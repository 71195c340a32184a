/- The logic over the machine: code that is cut at places. -/
import Derived.Test.YtoimffkejoeadaaGreatDoorW8
namespace Go.Proofs.YtoimffkejoeadaaGreatDoor.Vm
open Go
set_option linter.unusedVariables false
set_option linter.unusedSimpArgs false
noncomputable section
abbrev KF := WF → WS → Prop
def eqL : List Nat → List Nat → Bool
  | [], [] => true
  | a :: l, b :: m => match Nat.beq a b with
    | true => eqL l m
    | false => false
  | _, _ => false
def look : List (List Nat × KF) → List Nat → Option KF
  | [], _ => none
  | (p, K) :: l, q => match eqL p q with
    | true => some K
    | false => look l q
def cutK (T : List (List Nat × KF)) (q : List Nat) (d : KF) : KF := match look T q with
  | some K => K
  | none => d
section
variable (P : Program) (E : Addr → Option Value) (mt : List Meth) (orc : FuncId → List Value → Option Value) (wc : WC) (T : List (List Nat × KF))
def wxc : Code → List Nat → LL → WF → WS → KF → (Nat → WF → WS → Prop) → KF → Prop
  | .skip, rp, L, f, s, kn, ke, kr => kn f s
  | .seq a b, rp, L, f, s, kn, ke, kr => wxc a (0 :: rp) { L with n := lv b L } f s (cutK T (1 :: rp) fun f s => wxc b (1 :: rp) L f s kn ke kr) ke kr
  | .cond c a b, rp, L, f, s, kn, ke, kr => match constOk c with
    | true => wb (wopd c f) (wxc a (0 :: rp) L f s (fun f s => kn (mask L.n f) s) ke kr) (wxc b (1 :: rp) L f s (fun f s => kn (mask L.n f) s) ke kr)
    | false => False
  | .block id b, rp, L, f, s, kn, ke, kr => wxc b (0 :: rp) { L with e := (id, L.n) :: L.e } f s (fun f s => kn (mask L.n f) s) (fun k f s => match Nat.beq k id with
    | true => kn (mask L.n f) s
    | false => ke k f s) kr
  | .loop b, rp, L, f, s, kn, ke, kr => match look T rp with
    | some K => K (mask (lv (.loop b) L) f) s
    | none => wx P E mt orc (.loop b) L f s kn ke kr
  | .exit id, rp, L, f, s, kn, ke, kr => ke id f s
  | .ret, rp, L, f, s, kn, ke, kr => kr f s
  | .region _ ops d, rp, L, f, s, kn, ke, kr => match d with
    | false => wtext P E wc ops ops.toList f s (maskK ops L.n kn)
    | true => match apartOk ops (aheads ops.toList []) with
      | true => wdraw P E wc ops (ops.toList.zip (aheads ops.toList [])) 0 [] f s (maskK ops L.n kn)
      | false => False
  | _, _, _, _, _, _, _, _ => False
def watc : List Nat → List Nat → Code → LL → KF → (Nat → WF → WS → Prop) → KF → KF
  | [], rp, c, L, kn, ke, kr => fun f s => wxc P E mt orc wc T c rp L f s kn ke kr
  | i :: p, rp, .seq a b, L, kn, ke, kr => match Nat.beq i 0 with
    | true => watc p (0 :: rp) a { L with n := lv b L } (cutK T (1 :: rp) fun f s => wxc P E mt orc wc T b (1 :: rp) L f s kn ke kr) ke kr
    | false => watc p (1 :: rp) b L kn ke kr
  | i :: p, rp, .cond c a b, L, kn, ke, kr => match Nat.beq i 0 with
    | true => watc p (0 :: rp) a L (fun f s => kn (mask L.n f) s) ke kr
    | false => watc p (1 :: rp) b L (fun f s => kn (mask L.n f) s) ke kr
  | i :: p, rp, .block id b, L, kn, ke, kr => watc p (0 :: rp) b { L with e := (id, L.n) :: L.e } (fun f s => kn (mask L.n f) s) (fun k f s => match Nat.beq k id with
    | true => kn (mask L.n f) s
    | false => ke k f s) kr
  | i :: p, rp, .loop b, L, kn, ke, kr => watc p (0 :: rp) b { L with n := lv (.loop b) L } (fun f s => wxc P E mt orc wc T (.loop b) rp L f s kn ke kr) ke kr
  | _, _, _, _, _, _, _ => fun _ _ => False
end

section
variable {P : Program} {E : Addr → Option Value} {mt : List Meth} {orc : FuncId → List Value → Option Value} {T : List (List Nat × KF)}
variable {B : Code} {L0 : LL} {kn0 : KF} {ke0 : Nat → WF → WS → Prop} {kr0 : KF}
def TabOk (P : Program) (E : Addr → Option Value) (mt : List Meth) (orc : FuncId → List Value → Option Value) (T : List (List Nat × KF)) (B : Code) (L0 : LL) (kn0 : KF) (ke0 : Nat → WF → WS → Prop) (kr0 : KF) : Prop :=
  ∀ q K, look T q = some K → K = wat P E mt orc q.reverse B L0 kn0 ke0 kr0
def Here (P : Program) (E : Addr → Option Value) (mt : List Meth) (orc : FuncId → List Value → Option Value) (B : Code) (L0 : LL) (kn0 : KF) (ke0 : Nat → WF → WS → Prop) (kr0 : KF) (rp : List Nat) (c : Code) (L : LL) (kn : KF) (ke : Nat → WF → WS → Prop) (kr : KF) : Prop :=
  ∀ p, wat P E mt orc (rp.reverse ++ p) B L0 kn0 ke0 kr0 = wat P E mt orc p c L kn ke kr
theorem mask_mask (L : List Nat) (f : WF) : mask L (mask L f) = mask L f := by
  unfold mask
  apply List.map_congr_left
  intro t ht
  rw [show wget t (List.map (fun t => (t, wget t f)) L) = wget t (mask L f) from rfl, wget_mask ht]
theorem Here.down {rp : List Nat} {c c' : Code} {L L' : LL} {kn kn' : KF} {ke ke' : Nat → WF → WS → Prop} {kr : KF} {i : Nat} (h : Here P E mt orc B L0 kn0 ke0 kr0 rp c L kn ke kr)
    (hd : ∀ p, wat P E mt orc (i :: p) c L kn ke kr = wat P E mt orc p c' L' kn' ke' kr) : Here P E mt orc B L0 kn0 ke0 kr0 (i :: rp) c' L' kn' ke' kr := fun p => by
  rw [List.reverse_cons, List.append_assoc]
  exact (h (i :: p)).trans (hd p)
theorem cut_seq (hT : TabOk P E mt orc T B L0 kn0 ke0 kr0) {rp : List Nat} {a b : Code} {L : LL} {kn : KF} {ke : Nat → WF → WS → Prop} {kr : KF} (h : Here P E mt orc B L0 kn0 ke0 kr0 rp (.seq a b) L kn ke kr) {d : KF} (hd : d = fun f s => wx P E mt orc b L f s kn ke kr) :
    cutK T (1 :: rp) d = fun f s => wx P E mt orc b L f s kn ke kr := by
  unfold cutK
  cases hl : look T (1 :: rp) with
  | none => exact hd
  | some K =>
    have := hT _ _ hl
    rw [List.reverse_cons, h [1]] at this
    exact this
theorem beq_match (b : Bool) (A C : Prop) : (match b with | true => A | false => C) = bif b then A else C := by cases b <;> rfl
theorem wxc_eq (hT : TabOk P E mt orc T B L0 kn0 ke0 kr0) : ∀ (c : Code) (rp : List Nat) (L : LL) (f : WF) (s : WS) (kn : KF) (ke : Nat → WF → WS → Prop) (kr : KF), Here P E mt orc B L0 kn0 ke0 kr0 rp c L kn ke kr →
    wxc P E mt orc (Wc P E mt orc) T c rp L f s kn ke kr = wx P E mt orc c L f s kn ke kr
  | .skip, rp, L, f, s, kn, ke, kr, h => rfl
  | .exit id, rp, L, f, s, kn, ke, kr, h => rfl
  | .ret, rp, L, f, s, kn, ke, kr, h => rfl
  | .seq a b, rp, L, f, s, kn, ke, kr, h => by
    show wxc P E mt orc (Wc P E mt orc) T a (0 :: rp) { L with n := lv b L } f s (cutK T (1 :: rp) fun f s => wxc P E mt orc (Wc P E mt orc) T b (1 :: rp) L f s kn ke kr) ke kr = _
    rw [cut_seq hT h (funext fun f => funext fun s => wxc_eq hT b (1 :: rp) L f s kn ke kr (h.down fun p => rfl))]
    exact wxc_eq hT a (0 :: rp) { L with n := lv b L } f s _ ke kr (h.down fun p => rfl)
  | .cond c a b, rp, L, f, s, kn, ke, kr, h => by
    show (match constOk c with | true => _ | false => _) = (bif constOk c then _ else _)
    cases constOk c with
    | false => rfl
    | true =>
      show wb _ _ _ = wb _ _ _
      rw [wxc_eq hT a (0 :: rp) L f s _ ke kr (h.down fun p => rfl), wxc_eq hT b (1 :: rp) L f s _ ke kr (h.down fun p => rfl)]
  | .block id b, rp, L, f, s, kn, ke, kr, h => by
    have hke : (fun k f s => match Nat.beq k id with | true => kn (mask L.n f) s | false => ke k f s) = fun k f s => bif Nat.beq k id then kn (mask L.n f) s else ke k f s := by
      funext k f s; exact beq_match _ _ _
    show wxc P E mt orc (Wc P E mt orc) T b (0 :: rp) { L with e := (id, L.n) :: L.e } f s (fun f s => kn (mask L.n f) s) (fun k f s => match Nat.beq k id with | true => kn (mask L.n f) s | false => ke k f s) kr = _
    rw [hke]
    exact wxc_eq hT b (0 :: rp) _ f s _ _ kr (h.down fun p => rfl)
  | .loop b, rp, L, f, s, kn, ke, kr, h => by
    show (match look T rp with | some K => K (mask (lv (.loop b) L) f) s | none => wx P E mt orc (.loop b) L f s kn ke kr) = _
    cases hl : look T rp with
    | none => rfl
    | some K =>
      have hK := hT _ _ hl
      have h0 := h []
      rw [List.append_nil] at h0
      rw [h0] at hK
      subst hK
      show (bif subL (lv b { L with n := lv (.loop b) L }) (lv (.loop b) L) then WLoop P E mt orc b L (mask (lv (.loop b) L) (mask (lv (.loop b) L) f)) s ke kr else False) = (bif subL (lv b { L with n := lv (.loop b) L }) (lv (.loop b) L) then WLoop P E mt orc b L (mask (lv (.loop b) L) f) s ke kr else False)
      rw [mask_mask]
  | .region id ops d, rp, L, f, s, kn, ke, kr, h => by
    cases d with
    | false => rfl
    | true =>
      show (match apartOk ops (aheads ops.toList []) with | true => _ | false => _) = (bif apartOk ops (aheads ops.toList []) then _ else _)
      cases apartOk ops (aheads ops.toList []) <;> rfl
  | .rangeFunc _ _ _ _, rp, L, f, s, kn, ke, kr, h => rfl
  | .scope _, rp, L, f, s, kn, ke, kr, h => rfl
  | .label _, rp, L, f, s, kn, ke, kr, h => rfl
  | .goto _, rp, L, f, s, kn, ke, kr, h => rfl
  | .refuse _, rp, L, f, s, kn, ke, kr, h => rfl
theorem watc_eq (hT : TabOk P E mt orc T B L0 kn0 ke0 kr0) : ∀ (p rp : List Nat) (c : Code) (L : LL) (kn : KF) (ke : Nat → WF → WS → Prop) (kr : KF), Here P E mt orc B L0 kn0 ke0 kr0 rp c L kn ke kr →
    watc P E mt orc (Wc P E mt orc) T p rp c L kn ke kr = wat P E mt orc p c L kn ke kr
  | [], rp, c, L, kn, ke, kr, h => funext fun f => funext fun s => wxc_eq hT c rp L f s kn ke kr h
  | i :: p, rp, .seq a b, L, kn, ke, kr, h => by
    show (match Nat.beq i 0 with | true => _ | false => _) = (bif Nat.beq i 0 then _ else _)
    cases hi : Nat.beq i 0 with
    | true =>
      have := Nat.eq_of_beq_eq_true hi
      subst this
      show watc P E mt orc (Wc P E mt orc) T p (0 :: rp) a { L with n := lv b L } (cutK T (1 :: rp) fun f s => wxc P E mt orc (Wc P E mt orc) T b (1 :: rp) L f s kn ke kr) ke kr = _
      rw [cut_seq hT h (funext fun f => funext fun s => wxc_eq hT b (1 :: rp) L f s kn ke kr (h.down fun p => rfl))]
      exact watc_eq hT p (0 :: rp) a _ _ ke kr (h.down fun p => rfl)
    | false => exact watc_eq hT p (1 :: rp) b L kn ke kr (h.down fun p => rfl)
  | i :: p, rp, .cond c a b, L, kn, ke, kr, h => by
    show (match Nat.beq i 0 with | true => _ | false => _) = (bif Nat.beq i 0 then _ else _)
    cases hi : Nat.beq i 0 with
    | true => exact watc_eq hT p (0 :: rp) a L _ ke kr (h.down fun p => rfl)
    | false => exact watc_eq hT p (1 :: rp) b L _ ke kr (h.down fun p => rfl)
  | i :: p, rp, .block id b, L, kn, ke, kr, h => by
    have hke : (fun k f s => match Nat.beq k id with | true => kn (mask L.n f) s | false => ke k f s) = fun k f s => bif Nat.beq k id then kn (mask L.n f) s else ke k f s := by
      funext k f s; exact beq_match _ _ _
    show watc P E mt orc (Wc P E mt orc) T p (0 :: rp) b { L with e := (id, L.n) :: L.e } (fun f s => kn (mask L.n f) s) (fun k f s => match Nat.beq k id with | true => kn (mask L.n f) s | false => ke k f s) kr = _
    rw [hke]
    exact watc_eq hT p (0 :: rp) b _ _ _ kr (h.down fun p => rfl)
  | i :: p, rp, .loop b, L, kn, ke, kr, h => by
    show watc P E mt orc (Wc P E mt orc) T p (0 :: rp) b { L with n := lv (.loop b) L } (fun f s => wxc P E mt orc (Wc P E mt orc) T (.loop b) rp L f s kn ke kr) ke kr = _
    rw [show (fun f s => wxc P E mt orc (Wc P E mt orc) T (.loop b) rp L f s kn ke kr) = fun f s => wx P E mt orc (.loop b) L f s kn ke kr from funext fun f => funext fun s => wxc_eq hT (.loop b) rp L f s kn ke kr h]
    exact watc_eq hT p (0 :: rp) b _ _ ke kr (h.down fun p => rfl)
  | i :: p, rp, .skip, L, kn, ke, kr, h => rfl
  | i :: p, rp, .exit _, L, kn, ke, kr, h => rfl
  | i :: p, rp, .ret, L, kn, ke, kr, h => rfl
  | i :: p, rp, .region _ _ _, L, kn, ke, kr, h => rfl
  | i :: p, rp, .rangeFunc _ _ _ _, L, kn, ke, kr, h => rfl
  | i :: p, rp, .scope _, L, kn, ke, kr, h => rfl
  | i :: p, rp, .label _, L, kn, ke, kr, h => rfl
  | i :: p, rp, .goto _, L, kn, ke, kr, h => rfl
  | i :: p, rp, .refuse _, L, kn, ke, kr, h => rfl
theorem eqL_eq : ∀ (a b : List Nat), eqL a b = true → a = b
  | [], [], h => rfl
  | [], _ :: _, h => by cases h
  | _ :: _, [], h => by cases h
  | x :: a, y :: b, h => by
    have h : (match Nat.beq x y with | true => eqL a b | false => false) = true := h
    cases hxy : Nat.beq x y with
    | false => rw [hxy] at h; cases h
    | true => rw [hxy] at h; rw [Nat.eq_of_beq_eq_true hxy, eqL_eq a b h]
theorem tab_ok : ∀ (qs : List (List Nat)), TabOk P E mt orc (qs.map fun q => (q, wat P E mt orc q.reverse B L0 kn0 ke0 kr0)) B L0 kn0 ke0 kr0
  | [], q, K, hl => by cases hl
  | q' :: l, q, K, hl => by
    have hl : (match eqL q' q with | true => some (wat P E mt orc q'.reverse B L0 kn0 ke0 kr0) | false => look (l.map fun q => (q, wat P E mt orc q.reverse B L0 kn0 ke0 kr0)) q) = some K := hl
    cases he : eqL q' q with
    | false => rw [he] at hl; exact tab_ok l q K hl
    | true =>
      rw [he] at hl
      injection hl with hl
      rw [← eqL_eq _ _ he]
      exact hl.symm
/-- Code at a path, cut at other paths. -/
theorem wat_cut (qs : List (List Nat)) (p : List Nat) {f : WF} {s : WS} (h : watc P E mt orc (Wc P E mt orc) (qs.map fun q => (q, wat P E mt orc q.reverse B L0 kn0 ke0 kr0)) p [] B L0 kn0 ke0 kr0 f s) : wat P E mt orc p B L0 kn0 ke0 kr0 f s := by
  rw [← watc_eq (tab_ok qs) p [] B L0 kn0 ke0 kr0 (fun p => rfl)]
  exact h
theorem wat_cut' (ps : List (List Nat × List Nat)) (hps : (ps.all fun x => eqL x.1.reverse x.2) = true) (p : List Nat) {f : WF} {s : WS} (h : watc P E mt orc (Wc P E mt orc) (ps.map fun x => (x.1, wat P E mt orc x.2 B L0 kn0 ke0 kr0)) p [] B L0 kn0 ke0 kr0 f s) : wat P E mt orc p B L0 kn0 ke0 kr0 f s := by
  refine wat_cut (ps.map (·.1)) p ?_
  have e : (ps.map (·.1)).map (fun q => (q, wat P E mt orc q.reverse B L0 kn0 ke0 kr0)) = ps.map fun x => (x.1, wat P E mt orc x.2 B L0 kn0 ke0 kr0) := by
    rw [List.map_map]
    apply List.map_congr_left
    intro x hx
    have := eqL_eq _ _ (List.all_eq_true.1 hps x hx)
    simp [this]
  rw [e]
  exact h
end
end
end Go.Proofs.YtoimffkejoeadaaGreatDoor.Vm
