/- CLOSED FORMS: claims. -/
import Derived.Test.YtefjcgbidillhaaGreatEvM2
import Derived.Test.YtefjcgbidillhaaGreatEvPB
namespace Go.Proofs.YtefjcgbidillhaaGreat
open Go
namespace Ev
set_option linter.unusedVariables false
noncomputable def claimP (x : Claim) (y : Claim) : Bool := rows_Claims_c1 y x == 0
noncomputable def claimQ (x : Claim) (y : Claim) : Bool := decide (rows_Claims_c1 y x > 0)
theorem find_claim_eq (l : List Claim) (x : Claim) (h : l.length ≤ 1000000) : table_Find_Claim__rows_Claims_c1 l x = some (findZ (claimP x) l) :=
  find_fun (idx_fun (t := .claim) l (claimP x) h (fun i => slices_IndexFunc_Claim__table_Find_Claim_c1__rows_Claims_c1_1_s l l.length x i) (fun _ => rfl))
theorem drop_claim_eq (l : List Claim) (x : Claim) (h : l.length ≤ 1000000) : table_Drop_Claim__rows_Claims_c1 l x = some (l.eraseP (claimP x)) :=
  drop_fun (find_claim_eq l x h) h
theorem put_claim_eq (l : List Claim) (x : Claim) (h : l.length ≤ 1000000) : table_Put_Claim__rows_Claims_c1 l x = some (putC (claimP x) (claimQ x) x l) :=
  put_fun (find_claim_eq l x h) (idx_fun (t := .claim) l (claimQ x) h (fun i => slices_IndexFunc_Claim__table_Put_Claim_c1__rows_Claims_c1_1_s l l.length x i) (fun _ => rfl)) h
/-- Claim's answer. -/
noncomputable def claimA (l : List Claim) (c : Claim) : Option (List Claim) :=
  match l.find? (claimP c) with
  | some d => let c' : Claim := { c with qty := IntKind.wrap .i64 (c.qty + d.qty) }
    some (bif c'.qty == 0 then l.eraseP (claimP c) else putC (claimP c) (claimQ c) c' l)
  | none => bif c.qty == 0 then some l else bif decide ((l.length : Int) ≥ 128) then none else some (putC (claimP c) (claimQ c) c l)
def claimRes (h : House) : Option (List Claim) → House × Int
  | some l => ({ h with claims := l }, 0)
  | none => (house0, 14)
theorem alloc_Claim_eq (h : House) (c : Claim) (hl : h.claims.length ≤ 1000000) : alloc_Claim h c = some (claimRes h (claimA h.claims c)) := by
  unfold alloc_Claim
  simp only [find_claim_eq _ _ hl, drop_claim_eq _ _ hl, put_claim_eq _ _ hl, Option.isSome_some, Option.getD_some, cond_true]
  unfold findZ claimA
  cases hi : h.claims.findIdx? (claimP c) with
  | none =>
    have hf : h.claims.find? (claimP c) = none := by
      rw [List.findIdx?_eq_none_iff] at hi
      rw [List.find?_eq_none]
      intro x hx
      simp [hi x hx]
    simp only [hf, cond_false]
    by_cases hq : c.qty = 0
    · have : (c.qty == 0) = true := by simp [hq]
      simp [hq, eraseP_no hi, claimRes]
    · have : (c.qty == 0) = false := by simp [hq]
      have h2 : (c.qty != 0) = true := by simp [hq]
      rw [this, h2]
      simp only [cond_true, cond_false]
      cases decide ((h.claims.length : Int) ≥ 128) <;> rfl
  | some i =>
    have hlt := findIdx_lt hi
    have hf : h.claims.find? (claimP c) = some h.claims[i] := by
      rw [List.find?_eq_some_iff_getElem]
      obtain ⟨h1, h2, h3⟩ := List.findIdx?_eq_some_iff_getElem.1 hi
      exact ⟨h2, i, h1, rfl, fun j hj => by simpa using h3 j hj⟩
    have e1 : decide (0 ≤ (i : Int) ∧ (i : Int) < (h.claims.length : Int)) = true := decide_eq_true (by omega)
    have e2 : rd .claim h.claims (Int.toNat (i : Int)) = h.claims[i] := rd_at hlt
    simp only [hf, cond_true, e2]
    rw [e1]
    simp only [cond_true]
    show (bif IntKind.wrap .i64 (c.qty + h.claims[i].qty) == 0 then some (({ h with claims := h.claims.eraseP (claimP c) } : House), (0 : Int)) else some ({ h with claims := putC (claimP c) (claimQ c) { c with qty := IntKind.wrap .i64 (c.qty + h.claims[i].qty) } h.claims }, 0)) = _
    cases IntKind.wrap .i64 (c.qty + h.claims[i].qty) == 0 <;> rfl
end Ev
end Go.Proofs.YtefjcgbidillhaaGreat
