/- CLOSED FORMS: Same, Lent, Kept, Small. -/
import Derived.Test.YtefjcgbidillhaaGreatEvPD
import Derived.Test.YtefjcgbidillhaaGreatEvM2
namespace Go.Proofs.YtefjcgbidillhaaGreat
open Go
namespace Ev
set_option linter.unusedVariables false
set_option maxRecDepth 100000
/-- No list is longer than it may be. -/
structure Sm (h : House) : Prop where
  items : h.items.length ≤ 1000
  lots : h.lots.length ≤ 1000
  zones : h.zones.length ≤ 1000
  bins : h.bins.length ≤ 1000
  quants : h.quants.length ≤ 1000
  rules : h.rules.length ≤ 1000
  notices : h.notices.length ≤ 1000
  orders : h.orders.length ≤ 1000
  claims : h.claims.length ≤ 1000
  tasks : h.tasks.length ≤ 1000
  parcels : h.parcels.length ≤ 1000
  sent : h.sent.length ≤ 1000
  counted : h.counted.length ≤ 1000
  totals : h.totals.length ≤ 1000
theorem same_Item_eq (l : List (Ty.D .item)) (h : l.length ≤ 1000) : keep_same_Item l l = some true := same_refl (t := .item) l (fun a b => decide (a = b)) (fun a => decide_eq_true rfl) (by omega) (fun i => keep_same_Item_1_s l l i) (fun _ => rfl)
theorem lent_Item_eq (l : List (Ty.D .item)) (x : Ty.D .item) (h : l.length ≤ 1000) : keep_lent_Item l x = some (l, [x]) := lent_fun (t := .item) l x (by omega)
theorem same_Lot_eq (l : List (Ty.D .lot)) (h : l.length ≤ 1000) : keep_same_Lot l l = some true := same_refl (t := .lot) l (fun a b => decide (a = b)) (fun a => decide_eq_true rfl) (by omega) (fun i => keep_same_Lot_1_s l l i) (fun _ => rfl)
theorem lent_Lot_eq (l : List (Ty.D .lot)) (x : Ty.D .lot) (h : l.length ≤ 1000) : keep_lent_Lot l x = some (l, [x]) := lent_fun (t := .lot) l x (by omega)
theorem same_Zone_eq (l : List (Ty.D .zone)) (h : l.length ≤ 1000) : keep_same_Zone l l = some true := same_refl (t := .zone) l (fun a b => decide (a = b)) (fun a => decide_eq_true rfl) (by omega) (fun i => keep_same_Zone_1_s l l i) (fun _ => rfl)
theorem lent_Zone_eq (l : List (Ty.D .zone)) (x : Ty.D .zone) (h : l.length ≤ 1000) : keep_lent_Zone l x = some (l, [x]) := lent_fun (t := .zone) l x (by omega)
theorem same_Bin_eq (l : List (Ty.D .bin)) (h : l.length ≤ 1000) : keep_same_Bin l l = some true := same_refl (t := .bin) l (fun a b => decide (a = b)) (fun a => decide_eq_true rfl) (by omega) (fun i => keep_same_Bin_1_s l l i) (fun _ => rfl)
theorem lent_Bin_eq (l : List (Ty.D .bin)) (x : Ty.D .bin) (h : l.length ≤ 1000) : keep_lent_Bin l x = some (l, [x]) := lent_fun (t := .bin) l x (by omega)
theorem same_Quant_eq (l : List (Ty.D .quant)) (h : l.length ≤ 1000) : keep_same_Quant l l = some true := same_refl (t := .quant) l (fun a b => decide (a = b)) (fun a => decide_eq_true rfl) (by omega) (fun i => keep_same_Quant_1_s l l i) (fun _ => rfl)
theorem lent_Quant_eq (l : List (Ty.D .quant)) (x : Ty.D .quant) (h : l.length ≤ 1000) : keep_lent_Quant l x = some (l, [x]) := lent_fun (t := .quant) l x (by omega)
theorem same_Rule_eq (l : List (Ty.D .rule)) (h : l.length ≤ 1000) : keep_same_Rule l l = some true := same_refl (t := .rule) l (fun a b => decide (a = b)) (fun a => decide_eq_true rfl) (by omega) (fun i => keep_same_Rule_1_s l l i) (fun _ => rfl)
theorem lent_Rule_eq (l : List (Ty.D .rule)) (x : Ty.D .rule) (h : l.length ≤ 1000) : keep_lent_Rule l x = some (l, [x]) := lent_fun (t := .rule) l x (by omega)
theorem same_Notice_eq (l : List (Ty.D .notice)) (h : l.length ≤ 1000) : keep_same_Notice l l = some true := same_refl (t := .notice) l (fun a b => decide (a = b)) (fun a => decide_eq_true rfl) (by omega) (fun i => keep_same_Notice_1_s l l i) (fun _ => rfl)
theorem lent_Notice_eq (l : List (Ty.D .notice)) (x : Ty.D .notice) (h : l.length ≤ 1000) : keep_lent_Notice l x = some (l, [x]) := lent_fun (t := .notice) l x (by omega)
theorem same_Order_eq (l : List (Ty.D .order)) (h : l.length ≤ 1000) : keep_same_Order l l = some true := same_refl (t := .order) l (fun a b => decide (a = b)) (fun a => decide_eq_true rfl) (by omega) (fun i => keep_same_Order_1_s l l i) (fun _ => rfl)
theorem lent_Order_eq (l : List (Ty.D .order)) (x : Ty.D .order) (h : l.length ≤ 1000) : keep_lent_Order l x = some (l, [x]) := lent_fun (t := .order) l x (by omega)
theorem same_Claim_eq (l : List (Ty.D .claim)) (h : l.length ≤ 1000) : keep_same_Claim l l = some true := same_refl (t := .claim) l (fun a b => decide (a = b)) (fun a => decide_eq_true rfl) (by omega) (fun i => keep_same_Claim_1_s l l i) (fun _ => rfl)
theorem lent_Claim_eq (l : List (Ty.D .claim)) (x : Ty.D .claim) (h : l.length ≤ 1000) : keep_lent_Claim l x = some (l, [x]) := lent_fun (t := .claim) l x (by omega)
theorem same_Task_eq (l : List (Ty.D .task)) (h : l.length ≤ 1000) : keep_same_Task l l = some true := same_refl (t := .task) l (fun a b => decide (a = b)) (fun a => decide_eq_true rfl) (by omega) (fun i => keep_same_Task_1_s l l i) (fun _ => rfl)
theorem lent_Task_eq (l : List (Ty.D .task)) (x : Ty.D .task) (h : l.length ≤ 1000) : keep_lent_Task l x = some (l, [x]) := lent_fun (t := .task) l x (by omega)
theorem same_Parcel_eq (l : List (Ty.D .parcel)) (h : l.length ≤ 1000) : keep_same_Parcel l l = some true := same_refl (t := .parcel) l (fun a b => decide (a = b)) (fun a => decide_eq_true rfl) (by omega) (fun i => keep_same_Parcel_1_s l l i) (fun _ => rfl)
theorem lent_Parcel_eq (l : List (Ty.D .parcel)) (x : Ty.D .parcel) (h : l.length ≤ 1000) : keep_lent_Parcel l x = some (l, [x]) := lent_fun (t := .parcel) l x (by omega)
theorem same_Sent_eq (l : List (Ty.D .sent)) (h : l.length ≤ 1000) : keep_same_Sent l l = some true := same_refl (t := .sent) l (fun a b => decide (a = b)) (fun a => decide_eq_true rfl) (by omega) (fun i => keep_same_Sent_1_s l l i) (fun _ => rfl)
theorem lent_Sent_eq (l : List (Ty.D .sent)) (x : Ty.D .sent) (h : l.length ≤ 1000) : keep_lent_Sent l x = some (l, [x]) := lent_fun (t := .sent) l x (by omega)
theorem same_Counted_eq (l : List (Ty.D .counted)) (h : l.length ≤ 1000) : keep_same_Counted l l = some true := same_refl (t := .counted) l (fun a b => decide (a = b)) (fun a => decide_eq_true rfl) (by omega) (fun i => keep_same_Counted_1_s l l i) (fun _ => rfl)
theorem lent_Counted_eq (l : List (Ty.D .counted)) (x : Ty.D .counted) (h : l.length ≤ 1000) : keep_lent_Counted l x = some (l, [x]) := lent_fun (t := .counted) l x (by omega)
theorem same_Total_eq (l : List (Ty.D .total)) (h : l.length ≤ 1000) : keep_same_Total l l = some true := same_refl (t := .total) l (fun a b => decide (a = b)) (fun a => decide_eq_true rfl) (by omega) (fun i => keep_same_Total_1_s l l i) (fun _ => rfl)
theorem lent_Total_eq (l : List (Ty.D .total)) (x : Ty.D .total) (h : l.length ≤ 1000) : keep_lent_Total l x = some (l, [x]) := lent_fun (t := .total) l x (by omega)
theorem Same_eq (h : House) (s : Sm h) : keep_Same h h = some true := by
  unfold keep_Same
  simp only [same_Item_eq _ s.items, same_Lot_eq _ s.lots, same_Zone_eq _ s.zones, same_Bin_eq _ s.bins, same_Quant_eq _ s.quants, same_Rule_eq _ s.rules, same_Notice_eq _ s.notices, same_Order_eq _ s.orders, same_Claim_eq _ s.claims, same_Task_eq _ s.tasks, same_Parcel_eq _ s.parcels, same_Sent_eq _ s.sent, same_Counted_eq _ s.counted, same_Total_eq _ s.totals, Option.isSome_some, Option.getD_some, cond_true, beq_self_eq_true]
/-- What lies behind a lent house's lists. -/
def behind : House := ⟨[{ code := { data := #[98, 101, 104, 105, 110, 100] : ByteArray }, units := List.replicate 4 { name := ByteArray.empty, factor := 0 : Unt }, volume := 0, weight := 0, lots := false, serial := false, check := false : Itm }], [{ item := ByteArray.empty, code := { data := #[98, 101, 104, 105, 110, 100] : ByteArray }, expiry := 0 : Lott }], [{ code := { data := #[98, 101, 104, 105, 110, 100] : ByteArray }, site := ByteArray.empty : Zon }], [{ code := { data := #[98, 101, 104, 105, 110, 100] : ByteArray }, zone := ByteArray.empty, kind := 0, aisle := 0, place := 0, volume := 0, weight := 0, frozen := false : Binn }], [{ key := { bin := ByteArray.empty, item := ByteArray.empty, lot := ByteArray.empty, status := 0 : Key }, qty := -77, held := 0 : Quant }], [{ item := ByteArray.empty, zone := { data := #[98, 101, 104, 105, 110, 100] : ByteArray }, rank := 0 : Rul }], [{ code := { data := #[98, 101, 104, 105, 110, 100] : ByteArray }, site := ByteArray.empty, lines := List.replicate 8 { item := ByteArray.empty, asked := 0, done := 0, back := 0, packed := 0, out := 0 : Line }, shut := false : Notice }], [{ code := { data := #[98, 101, 104, 105, 110, 100] : ByteArray }, site := ByteArray.empty, lines := List.replicate 8 { item := ByteArray.empty, asked := 0, done := 0, back := 0, packed := 0, out := 0 : Line } : Order }], [{ order := { data := #[98, 101, 104, 105, 110, 100] : ByteArray }, line := 0, key := { bin := ByteArray.empty, item := ByteArray.empty, lot := ByteArray.empty, status := 0 : Key }, qty := 0, task := 0 : Claim }], [{ number := 0, kind := 0, order := ByteArray.empty, line := 0, «from» := { bin := ByteArray.empty, item := ByteArray.empty, lot := ByteArray.empty, status := 0 : Key }, to := { data := #[98, 101, 104, 105, 110, 100] : ByteArray }, qty := 0, who := ByteArray.empty : Task }], [{ bin := { data := #[98, 101, 104, 105, 110, 100] : ByteArray }, order := ByteArray.empty : Parcel }], [{ order := { data := #[98, 101, 104, 105, 110, 100] : ByteArray }, item := ByteArray.empty, lot := ByteArray.empty, qty := 0, back := 0 : Sent }], [{ key := { bin := ByteArray.empty, item := ByteArray.empty, lot := ByteArray.empty, status := 0 : Key }, qty := -77 : Counted }], [{ item := ByteArray.empty, lot := { data := #[98, 101, 104, 105, 110, 100] : ByteArray }, inn := 0, out := 0, back := 0, fixed := 0 : Total }], 0⟩
theorem Lent_eq (h : House) (s : Sm h) : keep_Lent h = some (h, behind) := by
  unfold keep_Lent
  simp only [lent_Item_eq _ _ s.items, lent_Lot_eq _ _ s.lots, lent_Zone_eq _ _ s.zones, lent_Bin_eq _ _ s.bins, lent_Quant_eq _ _ s.quants, lent_Rule_eq _ _ s.rules, lent_Notice_eq _ _ s.notices, lent_Order_eq _ _ s.orders, lent_Claim_eq _ _ s.claims, lent_Task_eq _ _ s.tasks, lent_Parcel_eq _ _ s.parcels, lent_Sent_eq _ _ s.sent, lent_Counted_eq _ _ s.counted, lent_Total_eq _ _ s.totals, Option.isSome_some, Option.getD_some, cond_true]
  rfl
section
variable {t : Ty}
theorem kg1 (l : List t.D) (x : t.D) (h : l.length ≤ 1000) : (decide (0 ≤ IntKind.wrap IntKind.i64 ((↑(List.length l) : Int) + 1)) && decide (IntKind.wrap IntKind.i64 ((↑(List.length l) : Int) + 1) ≤ (↑(List.length l + List.length [x]) : Int))) = true := by
  rw [wrap_nat (by omega)]
  simp
  omega
theorem kgw (l : List t.D) (h : l.length ≤ 1000) : Int.toNat (IntKind.wrap IntKind.i64 ((↑(List.length l) : Int) + 1)) = l.length + 1 := by
  rw [wrap_nat (by omega)]
  omega
theorem kg2 (l : List t.D) (x : t.D) (h : l.length ≤ 1000) : decide (0 ≤ (↑(List.length l) : Int) ∧ (↑(List.length l) : Int) < (↑(List.length (List.take (Int.toNat (IntKind.wrap IntKind.i64 ((↑(List.length l) : Int) + 1))) (l ++ [x]))) : Int)) = true := by
  refine decide_eq_true ?_
  rw [kgw l h, List.length_take, List.length_append, List.length_singleton]
  omega
theorem kg3 (l : List t.D) (x : t.D) (h : l.length ≤ 1000) : rd t (List.take (Int.toNat (IntKind.wrap IntKind.i64 ((↑(List.length l) : Int) + 1))) (l ++ [x])) (List.length l) = x := by
  unfold rd
  rw [kgw l h, List.take_of_length_le (by simp), List.getD_eq_getElem?_getD, List.getElem?_append_right (Nat.le_refl _), Nat.sub_self]
  rfl
end
theorem Kept_eq (h : House) (s : Sm h) : keep_Kept h behind h = some true := by
  unfold keep_Kept behind
  simp only [Same_eq h s, Option.isSome_some, Option.getD_some, cond_true, kg1 (t := .item) _ _ s.items, kg2 (t := .item) _ _ s.items, kg3 (t := .item) _ _ s.items, kg1 (t := .lot) _ _ s.lots, kg2 (t := .lot) _ _ s.lots, kg3 (t := .lot) _ _ s.lots, kg1 (t := .zone) _ _ s.zones, kg2 (t := .zone) _ _ s.zones, kg3 (t := .zone) _ _ s.zones, kg1 (t := .bin) _ _ s.bins, kg2 (t := .bin) _ _ s.bins, kg3 (t := .bin) _ _ s.bins, kg1 (t := .quant) _ _ s.quants, kg2 (t := .quant) _ _ s.quants, kg3 (t := .quant) _ _ s.quants, kg1 (t := .rule) _ _ s.rules, kg2 (t := .rule) _ _ s.rules, kg3 (t := .rule) _ _ s.rules, kg1 (t := .notice) _ _ s.notices, kg2 (t := .notice) _ _ s.notices, kg3 (t := .notice) _ _ s.notices, kg1 (t := .order) _ _ s.orders, kg2 (t := .order) _ _ s.orders, kg3 (t := .order) _ _ s.orders, kg1 (t := .claim) _ _ s.claims, kg2 (t := .claim) _ _ s.claims, kg3 (t := .claim) _ _ s.claims, kg1 (t := .task) _ _ s.tasks, kg2 (t := .task) _ _ s.tasks, kg3 (t := .task) _ _ s.tasks, kg1 (t := .parcel) _ _ s.parcels, kg2 (t := .parcel) _ _ s.parcels, kg3 (t := .parcel) _ _ s.parcels, kg1 (t := .sent) _ _ s.sent, kg2 (t := .sent) _ _ s.sent, kg3 (t := .sent) _ _ s.sent, kg1 (t := .counted) _ _ s.counted, kg2 (t := .counted) _ _ s.counted, kg3 (t := .counted) _ _ s.counted, kg1 (t := .total) _ _ s.totals, kg2 (t := .total) _ _ s.totals, kg3 (t := .total) _ _ s.totals]
  kernel_rfl
theorem Small_sm {h : House} (e : keep_Small h = true) : Sm h := by
  unfold keep_Small at e
  simp only [Bool.cond_false_right, Bool.and_eq_true, decide_eq_true_eq] at e
  obtain ⟨e0, e1, e2, e3, e4, e5, e6, e7, e8, e9, e10, e11, e12, e13⟩ := e
  exact ⟨by omega, by omega, by omega, by omega, by omega, by omega, by omega, by omega, by omega, by omega, by omega, by omega, by omega, by omega⟩
end Ev
end Go.Proofs.YtefjcgbidillhaaGreat

