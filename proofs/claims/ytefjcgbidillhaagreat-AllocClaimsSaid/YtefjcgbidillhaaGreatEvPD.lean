/- PLAIN LAWS: houses held against one another, and lent. -/
import Derived.Test.YtefjcgbidillhaaGreatEvPC
namespace Go.Proofs.YtefjcgbidillhaaGreat
open Go
namespace Ev
set_option linter.unusedVariables false
section
variable {t : Ty}
theorem same_refl (l : List t.D) (e : t.D → t.D → Bool) (he : ∀ a, e a a = true) (hl : l.length ≤ 100000) (step : Int → Option (Int ⊕ (Unit ⊕ Unit)))
    (hs : ∀ i : Int, step i = (bif decide (i < (↑(List.length l) : Int)) then (bif decide (0 ≤ i ∧ i < (↑(List.length l) : Int)) then (bif decide (0 ≤ i ∧ i < (↑(List.length l) : Int)) then (bif !e (rd t l (Int.toNat i)) (rd t l (Int.toNat i)) then some (.inr (.inl ())) else some (.inl (IntKind.wrap IntKind.i64 (i + 1)))) else none) else none) else some (.inr (.inr ())))) :
    (bif (↑(List.length l) : Int) != (↑(List.length l) : Int) then some false else (bif Option.isSome (run step 0) then (bif isL (Option.getD (run step 0) default) then some false else some true) else none)) = some true := by
  have key : run step 0 = some (.inr ()) := by
    have := run_idx l (fun _ => false) (fun _ => .inl ()) (.inr ()) step (fun i hi => by
      rw [hs, he]
      have h1 : decide ((i : Int) < (l.length : Int)) = true := by simp; exact hi
      have h2 : decide (0 ≤ (i : Int) ∧ (i : Int) < (l.length : Int)) = true := by simp; exact hi
      rw [h1, h2, wrap_nat (by omega)]
      rfl) (by rw [hs]; simp)
    rw [this, List.findIdx?_eq_none_iff.2 (fun _ _ => rfl)]
  rw [key]
  simp
  rfl

theorem lent_fun (l : List t.D) (x : t.D) (hl : l.length ≤ 100000) :
    (bif decide (0 ≤ IntKind.wrap IntKind.i64 ((↑(List.length l) : Int) + 1)) && decide (IntKind.wrap IntKind.i64 ((↑(List.length l) : Int) + 1) ≤ 1000000) then (bif Nat.ble (List.length (List.replicate (Int.toNat 0) t.zero) + List.length l) big then (bif Nat.ble (List.length (List.replicate (Int.toNat 0) t.zero ++ l) + List.length [x]) big then (bif decide ((↑(List.length l) : Int) ≤ (↑(List.length (List.replicate (Int.toNat 0) t.zero ++ l ++ [x])) : Int)) then some (List.take (List.length l) (List.replicate (Int.toNat 0) t.zero ++ l ++ [x]), List.drop (List.length l) (List.replicate (Int.toNat 0) t.zero ++ l ++ [x])) else none) else none) else none) else none)
      = some (l, [x]) := by
  have h1 : decide (0 ≤ IntKind.wrap IntKind.i64 ((↑(List.length l) : Int) + 1)) = true := decide_eq_true (by rw [wrap_nat (by omega)]; omega)
  have h2 : decide (IntKind.wrap IntKind.i64 ((↑(List.length l) : Int) + 1) ≤ 1000000) = true := decide_eq_true (by rw [wrap_nat (by omega)]; omega)
  have h0 : List.replicate (Int.toNat 0) t.zero = [] := rfl
  rw [h0, List.nil_append, h1, h2, bigle (by simp; omega), bigle (by simp; omega)]
  simp
  rw [decide_eq_true (by omega)]
  rfl
end
end Ev
end Go.Proofs.YtefjcgbidillhaaGreat
