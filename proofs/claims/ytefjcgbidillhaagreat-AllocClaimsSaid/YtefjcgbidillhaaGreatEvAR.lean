/- CLOSED FORMS: the reference's claims; the law AllocClaims. -/
import Derived.Test.YtefjcgbidillhaaGreatEvM2
import Derived.Test.YtefjcgbidillhaaGreatEvAC
import Derived.Test.YtefjcgbidillhaaGreatEvAK
import Derived.Test.YtefjcgbidillhaaGreatEvPD
namespace Go.Proofs.YtefjcgbidillhaaGreat
open Go
namespace Ev
set_option linter.unusedVariables false
theorem bytesLess_irrefl : ∀ l : List UInt8, Op.bytesLess l l = false
  | [] => by simp [Op.bytesLess]
  | a :: l => by simp [Op.bytesLess, bytesLess_irrefl l, UInt8.lt_irrefl]
theorem cmpS_zero {a b : Str} : (cmpS a b == 0) = decide (a = b) := by
  by_cases h : a = b
  · subst h
    simp [cmpS, sLt, sEq, bytesLess_irrefl]
  · have h2 : sEq a b = false := by
      unfold sEq
      rw [toList_eq]
      simp [h]
    simp only [cmpS, h2, Bool.or_false, h, decide_false]
    cases sLt a b <;> rfl
theorem cmpI_zero {a b : Int} : (cmpI a b == 0) = decide (a = b) := by
  unfold cmpI
  by_cases h : a < b
  · simp only [h, decide_true]
    have : ¬ a = b := by omega
    simp [this]
  · by_cases h2 : b < a
    · simp only [h, h2, decide_true, decide_false]
      have : ¬ a = b := by omega
      simp [this]
    · simp only [h, h2, decide_false]
      have : a = b := by omega
      simp [this]
theorem orI_snoc : ∀ (l : List Int) (w : Int), orI (l ++ [w]) = match orI l != 0 with | true => orI l | false => w
  | [], w => by
    simp only [List.nil_append, orI]
    cases h : w != 0 with
    | true => rfl
    | false =>
      have : w = 0 := by simpa using h
      simp [this]
  | a :: l, w => by
    simp only [List.cons_append, orI, orI_snoc l w]
    cases h : a != 0 with
    | true => simp [h]
    | false => rfl
theorem orI_zero : ∀ l : List Int, (orI l == 0) = l.all (· == 0)
  | [] => rfl
  | a :: l => by
    simp only [orI, List.all_cons]
    cases h : a != 0 with
    | true =>
      have : (a == 0) = false := by simpa using h
      simp [this]
    | false =>
      have : (a == 0) = true := by simpa using h
      simp only [this, Bool.true_and]
      exact orI_zero l
theorem numbers_eq (a b : Int) : rows_numbers a b = cmpI a b := by
  unfold rows_numbers cmpI
  have e : decide (a > b) = decide (b < a) := rfl
  rw [e]
  cases decide (a < b) <;> cases decide (b < a) <;> rfl
theorem Texts_eq (l1 l2 : List Str) (hl : l1.length ≤ 100000) (h : l2.length = l1.length) : rows_Texts l1 l2 = some (orI (List.zipWith cmpS l1 l2)) :=
  rtexts_fun l1 l2 hl h (fun i => rows_Texts_1_s l1 l2 i) (fun _ => rfl)
theorem Keys_eq (a b : Key) : rows_Keys a b = some (rows_keys a b) := by
  unfold rows_Keys rows_keys
  rw [Texts_eq _ _ (by simp) (by simp), show [cmpS a.bin b.bin, cmpS a.item b.item, cmpS a.lot b.lot, cmpI a.status b.status] = [cmpS a.bin b.bin, cmpS a.item b.item, cmpS a.lot b.lot] ++ [cmpI a.status b.status] from rfl, orI_snoc]
  show (bif (orI [cmpS a.bin b.bin, cmpS a.item b.item, cmpS a.lot b.lot] != 0) then some (orI [cmpS a.bin b.bin, cmpS a.item b.item, cmpS a.lot b.lot]) else (bif decide (a.status < b.status) then some (-1) else (bif decide (b.status < a.status) then some 1 else some 0))) = _
  cases orI [cmpS a.bin b.bin, cmpS a.item b.item, cmpS a.lot b.lot] != 0 with
  | true => rfl
  | false =>
    unfold cmpI
    cases decide (a.status < b.status) <;> cases decide (b.status < a.status) <;> rfl
theorem claims_eq (a b : Claim) : rows_claims a b = some (rows_Claims_c1 a b) := by
  unfold rows_claims rows_Claims_c1
  rw [Texts_eq _ _ (by simp) (by simp), Keys_eq]
  simp only [numbers_eq, List.zipWith_cons_cons, List.zipWith_nil_left, List.zipWith_nil_right, Option.isSome_some, Option.getD_some, cond_true]
  generalize cmpS a.order b.order = p
  generalize cmpI a.line b.line = q
  generalize rows_keys a.key b.key = r
  generalize cmpI a.task b.task = s
  have e1 : orI [p] = p := by
    simp only [orI]
    cases h : p != 0 with
    | true => rfl
    | false => simpa using (by simpa using h : p = 0).symm
  rw [e1]
  simp only [orI, bne]
  cases hp : p == 0 <;> cases hq : q == 0 <;> cases hr : r == 0 <;> cases hs : s == 0 <;> first | rfl | (simp_all; done)
theorem rdrop_claim_eq (l : List Claim) (x : Claim) (h : l.length ≤ 100000) : rows_drop_Claim__rows_claims l x = some (l.eraseP (claimP x)) :=
  rdrop_fun (t := .claim) l (fun y => rows_claims y x) (fun y => rows_Claims_c1 y x) (fun y => claims_eq y x) h (fun s => rows_drop_Claim__rows_claims_1_s l x s.1 s.2.1 s.2.2) (fun _ => rfl)
theorem rput_claim_eq (l : List Claim) (x : Claim) (h : l.length ≤ 100000) : rows_put_Claim__rows_claims l x = some (putC (claimP x) (claimQ x) x l) :=
  rput_fun (t := .claim) l x (fun y => rows_Claims_c1 y x) h
    (rput1 (t := .claim) l x (fun y => rows_claims y x) (fun y => rows_Claims_c1 y x) (fun y => claims_eq y x) h (fun i => rows_put_Claim__rows_claims_1_s l x [] i) (fun _ => rfl))
    (rput2 (t := .claim) l x (fun y => rows_claims y x) (fun y => rows_Claims_c1 y x) (fun y => claims_eq y x) h (fun s => rows_put_Claim__rows_claims_2_s l x s.1 s.2.1 s.2.2) (fun _ => rfl))
noncomputable def claimR (h : House) (x : Claim) : House := { h with claims := bif x.qty == 0 then h.claims.eraseP (claimP x) else putC (claimP x) (claimQ x) x h.claims }
theorem rows_Claim_eq (h : House) (x : Claim) (hl : h.claims.length ≤ 100000) : rows_Claim h x = some (claimR h x) := by
  unfold rows_Claim claimR
  rw [rdrop_claim_eq _ _ hl, rput_claim_eq _ _ hl]
  cases x.qty == 0 <;> rfl
theorem claimP_iff (c d : Claim) : claimP c d = (decide (d.order = c.order) && (d.line == c.line) && decide (d.key = c.key) && (d.task == c.task)) := by
  unfold claimP rows_Claims_c1
  rw [orI_zero]
  simp only [List.all_cons, List.all_nil, Bool.and_true, cmpS_zero, cmpI_zero]
  have e : (rows_keys d.key c.key == 0) = decide (d.key = c.key) := by
    unfold rows_keys
    rw [orI_zero]
    simp only [List.all_cons, List.all_nil, Bool.and_true, cmpS_zero, cmpI_zero]
    obtain ⟨a1, a2, a3, a4⟩ := d.key
    obtain ⟨b1, b2, b3, b4⟩ := c.key
    simp only [Key.mk.injEq]
    by_cases h1 : a1 = b1 <;> by_cases h2 : a2 = b2 <;> by_cases h3 : a3 = b3 <;> by_cases h4 : a4 = b4 <;> simp [h1, h2, h3, h4]
  rw [e]
  have f : ∀ a b : Int, (a == b) = decide (a = b) := fun a b => rfl
  rw [f, f]
  cases decide (d.order = c.order) <;> cases decide (d.line = c.line) <;> cases decide (d.key = c.key) <;> cases decide (d.task = c.task) <;> rfl
theorem findSome_find {α β : Type} (p : α → Bool) (F : α → β) : ∀ l : List α, l.findSome? (fun a => match p a with | true => some (F a) | false => none) = (l.find? p).map F
  | [] => rfl
  | a :: l => by
    simp only [List.findSome?_cons, List.find?_cons]
    cases p a with
    | true => rfl
    | false => exact findSome_find p F l
theorem ref16_Claim_eq (h : House) (c : Claim) (hl : h.claims.length ≤ 100000) : ref16_Claim h c = some (claimRes h (claimA h.claims c)) := by
  have key : ref16_Claim_1_l h c house0 0 = some ((h.claims.findSome? (fun d => match claimP c d with
      | true => some (.inl (claimR h { c with qty := IntKind.wrap .i64 (d.qty + c.qty) }))
      | false => none)).getD (.inr ())) := by
    refine run_find h.claims _ (.inr ()) (fun i => ref16_Claim_1_s h c house0 i) (fun i hi => ?_) ?_
    · unfold ref16_Claim_1_s
      have e0 : rd Ty.claim h.claims (Int.toNat (i : Int)) = h.claims[i] := rd_at hi
      have h1 : decide ((i : Int) < (h.claims.length : Int)) = true := by simp; exact hi
      have h2 : decide (0 ≤ (i : Int) ∧ (i : Int) < (h.claims.length : Int)) = true := by simp; exact hi
      rw [e0, h1, h2, wrap_nat (by omega), toList_eq, claimP_iff]
      simp only [cond_true]
      by_cases k1 : h.claims[i].order = c.order
      · by_cases k2 : h.claims[i].line = c.line
        · by_cases k3 : h.claims[i].key = c.key
          · by_cases k4 : h.claims[i].task = c.task
            · rw [rows_Claim_eq _ _ hl]
              simp [k1, k2, k3, k4]
            · have k4' : (h.claims[i].task == c.task) = false := by simpa using k4
              simp [k1, k2, k3, k4']
          · simp [k1, k2, k3]
        · have k2' : (h.claims[i].line == c.line) = false := by simpa using k2
          simp [k1, k2']
      · simp [k1]
    · unfold ref16_Claim_1_s
      simp
  unfold ref16_Claim
  rw [key, findSome_find, rows_Claim_eq _ _ hl]
  unfold claimA
  cases h.claims.find? (claimP c) with
  | some d =>
    simp only [Option.map_some, Option.getD_some, Option.isSome_some, cond_true, isL, getL]
    rw [Int.add_comm d.qty c.qty]
    unfold claimR
    have ep : ∀ q, claimP { c with qty := q } = claimP c := fun q => rfl
    have eq : ∀ q, claimQ { c with qty := q } = claimQ c := fun q => rfl
    simp only [ep, eq, claimRes]
  | none =>
    simp only [Option.map_none, Option.getD_none, Option.getD_some, Option.isSome_some, cond_true, isL, cond_false]
    cases hq : c.qty == 0 with
    | true => rfl
    | false =>
      cases decide ((h.claims.length : Int) ≥ 128) with
      | true => rfl
      | false =>
        simp only [cond_false, claimR, hq, claimRes]
theorem setP_len {α : Type} {p : α → Bool} {x : α} : ∀ l : List α, (setP p x l).length = l.length
  | [] => rfl
  | a :: l => by
    unfold setP
    cases p a <;> simp [setP_len l]
theorem insP_len {α : Type} {p : α → Bool} {x : α} : ∀ l : List α, (insP p x l).length = l.length + 1
  | [] => rfl
  | a :: l => by
    unfold insP
    cases p a <;> simp [insP_len l]
theorem putC_len {α : Type} {p q : α → Bool} {x : α} (l : List α) : (putC p q x l).length ≤ l.length + 1 := by
  unfold putC
  cases l.any p <;> simp [setP_len, insP_len]
theorem eraseP_len {α : Type} {p : α → Bool} (l : List α) : (l.eraseP p).length ≤ l.length := List.length_eraseP_le
theorem claimA_len {l l' : List Claim} {c : Claim} (h : claimA l c = some l') : l'.length ≤ l.length + 1 := by
  unfold claimA at h
  split at h
  · rename_i d hd
    simp only [Option.some.injEq] at h
    subst h
    cases (IntKind.wrap .i64 (c.qty + d.qty)) == 0 with
    | true => exact Nat.le_trans (eraseP_len l) (Nat.le_succ _)
    | false => exact putC_len l
  · cases hq : c.qty == 0 with
    | true => rw [hq] at h; simp at h; subst h; exact Nat.le_succ _
    | false =>
      rw [hq] at h
      simp only [cond_false] at h
      cases hd : decide ((l.length : Int) ≥ 128) with
      | true => rw [hd] at h; cases h
      | false => rw [hd] at h; simp at h; subst h; exact putC_len l
theorem Sm0 : Sm house0 := by constructor <;> simp [house0]
theorem AllocClaims_true (h : House) (c : Claim) : law16_AllocClaims h c = some true := by
  unfold law16_AllocClaims
  cases hs : keep_Small h with
  | false => rfl
  | true =>
    have s := Small_sm hs
    have hc : h.claims.length ≤ 160 := by
      unfold keep_Small at hs
      simp only [Bool.cond_false_right, Bool.and_eq_true, decide_eq_true_eq] at hs
      obtain ⟨_, _, _, _, _, _, _, _, h8, _⟩ := hs
      omega
    simp only [Bool.not_true, cond_false, Lent_eq h s, Option.isSome_some, Option.getD_some, cond_true, alloc_Claim_eq h c (by omega), ref16_Claim_eq h c (by omega), beq_self_eq_true]
    have ek : ({ items := behind.items, lots := behind.lots, zones := behind.zones, bins := behind.bins, quants := behind.quants, rules := behind.rules, notices := behind.notices, orders := behind.orders, claims := behind.claims, tasks := behind.tasks, parcels := behind.parcels, sent := behind.sent, counted := behind.counted, totals := behind.totals, last := 0 } : House) = behind := rfl
    rw [ek, Kept_eq h s]
    have sr : Sm (claimRes h (claimA h.claims c)).1 := by
      cases hA : claimA h.claims c with
      | none => exact Sm0
      | some l =>
        have := claimA_len hA
        exact { s with claims := by show l.length ≤ 1000; omega }
    rw [Same_eq _ sr]
    rfl
theorem allocClaims_allok : AllOK Tryz.prog keep_Small_E := keep_Small_ok
theorem allocClaims_run (x0 : House) (x1 : Claim) : runA (withN keep_Small_E 0) 6 5 [.g (hC x0), .g [.el .claim x1]] ⟨[], []⟩ = some (.s (.v (.bool true))) := by
  rw [law16_AllocClaims_r, AllocClaims_true]
  rfl
end Ev
end Go.Proofs.YtefjcgbidillhaaGreat
