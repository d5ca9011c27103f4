/- PLAIN LAWS: tables. -/
import Derived.Test.YtefjcgbidillhaaGreatEvPA
import Derived.Test.YtefjcgbidillhaaGreatEvIC
namespace Go.Proofs.YtefjcgbidillhaaGreat
open Go
namespace Ev
set_option linter.unusedVariables false
section
variable {α : Type}
def idxZ (p : α → Bool) (l : List α) : Int := match l.findIdx? p with
  | some i => i
  | none => -1
def findZ (p : α → Bool) (l : List α) : Int × Bool := match l.findIdx? p with
  | some i => (i, true)
  | none => (0, false)
/-- The first one that is so becomes x. -/
def setP (p : α → Bool) (x : α) : List α → List α
  | [] => []
  | a :: l => bif p a then x :: l else a :: setP p x l
/-- x ahead of the first one that is so. -/
def insP (q : α → Bool) (x : α) : List α → List α
  | [] => [x]
  | a :: l => bif q a then x :: a :: l else a :: insP q x l
def putC (p q : α → Bool) (x : α) (l : List α) : List α := bif l.any p then setP p x l else insP q x l

theorem findIdx_lt {p : α → Bool} {l : List α} {i : Nat} (h : l.findIdx? p = some i) : i < l.length := (List.findIdx?_eq_some_iff_getElem.1 h).1
theorem any_of_idx {p : α → Bool} {l : List α} : l.any p = (l.findIdx? p).isSome := by
  rw [List.findIdx?_isSome]
theorem setP_idx {p : α → Bool} {x : α} : ∀ {l : List α} {i : Nat}, l.findIdx? p = some i → l.set i x = setP p x l
  | [], i, h => by simp at h
  | a :: l, i, h => by
    rw [List.findIdx?_cons] at h
    unfold setP
    cases hp : p a with
    | true => rw [hp] at h; simp at h; subst h; rfl
    | false =>
      rw [hp] at h
      simp only [Bool.false_eq_true, if_false, Option.map_eq_some_iff] at h
      obtain ⟨j, hj, rfl⟩ := h
      simp only [cond_false, List.set_cons_succ, setP_idx hj]
theorem insP_idx {q : α → Bool} {x : α} : ∀ {l : List α}, insA l ((l.findIdx? q).getD l.length) x = insP q x l
  | [] => rfl
  | a :: l => by
    rw [List.findIdx?_cons]
    unfold insP
    cases hp : q a with
    | true => simp [insA]
    | false =>
      have := insP_idx (q := q) (x := x) (l := l)
      rw [← this]
      cases hq : l.findIdx? q <;> simp [insA]
theorem eraseP_idx {p : α → Bool} : ∀ {l : List α} {i : Nat}, l.findIdx? p = some i → delA l i (i + 1) = l.eraseP p
  | [], i, h => by simp at h
  | a :: l, i, h => by
    rw [List.findIdx?_cons] at h
    rw [List.eraseP_cons]
    cases hp : p a with
    | true => rw [hp] at h; simp at h; subst h; rfl
    | false =>
      rw [hp] at h
      simp only [Bool.false_eq_true, if_false, Option.map_eq_some_iff] at h
      obtain ⟨j, hj, rfl⟩ := h
      have := eraseP_idx hj
      simp only [delA, Bool.false_eq_true, cond_false] at this ⊢
      simp [← this]
theorem eraseP_no {p : α → Bool} : ∀ {l : List α}, l.findIdx? p = none → l.eraseP p = l
  | [], h => rfl
  | a :: l, h => by
    rw [List.findIdx?_cons] at h
    rw [List.eraseP_cons]
    cases hp : p a with
    | true => rw [hp] at h; simp at h
    | false =>
      rw [hp] at h
      simp only [Bool.false_eq_true, if_false, Option.map_eq_none_iff] at h
      simp [eraseP_no h]
end
section
variable {t : Ty}
theorem idx_loop (l : List t.D) (p : t.D → Bool) (hl : l.length ≤ 1000000) (step : Int → Option (Int ⊕ (Int ⊕ Unit)))
    (hs : ∀ i : Int, step i = bif decide (i < (l.length : Int)) then (bif decide (0 ≤ i ∧ i < (l.length : Int)) then (bif p (rd t l i.toNat) then some (.inr (.inl i)) else some (.inl (IntKind.wrap .i64 (i + 1)))) else none) else some (.inr (.inr ()))) :
    run step 0 = some (match l.findIdx? p with | some i => .inl (i : Int) | none => .inr ()) := by
  refine run_idx l p (fun i => .inl (i : Int)) (.inr ()) step (fun i hi => ?_) ?_
  · rw [hs, rd_at hi]
    have h1 : decide ((i : Int) < (l.length : Int)) = true := by simp; exact hi
    have h2 : decide (0 ≤ (i : Int) ∧ (i : Int) < (l.length : Int)) = true := by simp; exact hi
    rw [h1, h2, wrap_nat (by omega)]
    simp only [cond_true]
    cases p l[i] <;> rfl
  · rw [hs]
    simp
theorem idx_fun (l : List t.D) (p : t.D → Bool) (hl : l.length ≤ 1000000) (step : Int → Option (Int ⊕ (Int ⊕ Unit)))
    (hs : ∀ i : Int, step i = bif decide (i < (l.length : Int)) then (bif decide (0 ≤ i ∧ i < (l.length : Int)) then (bif p (rd t l i.toNat) then some (.inr (.inl i)) else some (.inl (IntKind.wrap .i64 (i + 1)))) else none) else some (.inr (.inr ()))) :
    (bif Option.isSome (run step 0) then (bif isL (Option.getD (run step 0) default) then some (getL (Option.getD (run step 0) default)) else some (-1)) else none) = some (idxZ p l) := by
  rw [idx_loop l p hl step hs]
  unfold idxZ
  cases l.findIdx? p <;> rfl
end
section
variable {α : Type}
theorem find_fun {p : α → Bool} {l : List α} {o : Option Int} (h : o = some (idxZ p l)) :
    (bif Option.isSome o then (bif decide (Option.getD o default ≥ 0) then some (Option.getD o default, true) else some (0, false)) else none) = some (findZ p l) := by
  subst h
  unfold idxZ findZ
  cases l.findIdx? p <;> simp
theorem drop_fun {p : α → Bool} {l : List α} {o : Option (Int × Bool)} (h : o = some (findZ p l)) (hl : l.length ≤ 1000000) :
    (bif Nat.ble (List.length l) 1000000 then (bif Option.isSome o then (bif Prod.snd (Option.getD o default) then (bif decide (0 ≤ Prod.fst (Option.getD o default) ∧ Prod.fst (Option.getD o default) < IntKind.wrap IntKind.i64 (Prod.fst (Option.getD o default) + 1) ∧ IntKind.wrap IntKind.i64 (Prod.fst (Option.getD o default) + 1) ≤ (↑(List.length l) : Int)) then some (delA l (Int.toNat (Prod.fst (Option.getD o default))) (Int.toNat (IntKind.wrap IntKind.i64 (Prod.fst (Option.getD o default) + 1)))) else none) else some l) else none) else none) = some (l.eraseP p) := by
  subst h
  rw [show Nat.ble l.length 1000000 = true from Nat.ble_eq_true_of_le hl]
  unfold findZ
  cases hi : l.findIdx? p with
  | none => simp [eraseP_no hi]
  | some i =>
    have := findIdx_lt hi
    have e0 : ((i : Int) + 1) = ((i + 1 : Nat) : Int) := by omega
    have hw : IntKind.wrap .i64 ((i : Int) + 1) = ((i + 1 : Nat) : Int) := wrap_nat (by omega)
    have e1 : decide (0 ≤ (i : Int) ∧ (i : Int) < IntKind.wrap .i64 ((i : Int) + 1) ∧ IntKind.wrap .i64 ((i : Int) + 1) ≤ (l.length : Int)) = true := decide_eq_true (by rw [hw]; omega)
    show (bif decide (0 ≤ (i : Int) ∧ (i : Int) < IntKind.wrap .i64 ((i : Int) + 1) ∧ IntKind.wrap .i64 ((i : Int) + 1) ≤ (l.length : Int)) then some (delA l (Int.toNat (i : Int)) (Int.toNat (IntKind.wrap .i64 ((i : Int) + 1)))) else none) = _
    rw [e1, hw, Int.toNat_natCast, Int.toNat_natCast, cond_true, eraseP_idx hi]
theorem put_fun {p q : α → Bool} {x : α} {l : List α} {o : Option (Int × Bool)} {o2 : Option Int} (h : o = some (findZ p l)) (h2 : o2 = some (idxZ q l)) (hl : l.length ≤ 1000000) :
    (bif Nat.ble (List.length l) 1000000 then (bif Option.isSome o then (bif Prod.snd (Option.getD o default) then (bif decide (0 ≤ Prod.fst (Option.getD o default) ∧ Prod.fst (Option.getD o default) < (↑(List.length l) : Int)) then some (List.set l (Int.toNat (Prod.fst (Option.getD o default))) x) else none) else (bif Option.isSome o2 then (bif decide (Option.getD o2 default < 0) then (bif decide (0 ≤ (↑(List.length l) : Int) ∧ (↑(List.length l) : Int) ≤ (↑(List.length l) : Int)) && Nat.ble (List.length l) 1000000 then some (insA l (List.length l) x) else none) else (bif decide (0 ≤ Option.getD o2 default ∧ Option.getD o2 default ≤ (↑(List.length l) : Int)) && Nat.ble (List.length l) 1000000 then some (insA l (Int.toNat (Option.getD o2 default)) x) else none)) else none)) else none) else none) = some (putC p q x l) := by
  subst h h2
  rw [show Nat.ble l.length 1000000 = true from Nat.ble_eq_true_of_le hl]
  unfold findZ idxZ putC
  rw [any_of_idx]
  cases hi : l.findIdx? p with
  | some i =>
    have := findIdx_lt hi
    simp only [Option.isSome_some, Option.getD_some, cond_true, setP_idx hi]
    simp [setP_idx hi, this]
  | none =>
    have h3 := insP_idx (q := q) (x := x) (l := l)
    cases hq : l.findIdx? q with
    | none =>
      rw [hq] at h3
      simp only [Option.getD_none] at h3
      simp [h3]
    | some j =>
      have := findIdx_lt hq
      rw [hq] at h3
      simp only [Option.getD_some] at h3
      have e1 : decide ((j : Int) < 0) = false := decide_eq_false (by omega)
      have e2 : decide (0 ≤ (j : Int) ∧ (j : Int) ≤ (l.length : Int)) = true := decide_eq_true (by omega)
      show (bif decide ((j : Int) < 0) then (bif decide (0 ≤ (↑(List.length l) : Int) ∧ (↑(List.length l) : Int) ≤ (↑(List.length l) : Int)) && true then some (insA l (List.length l) x) else none) else (bif decide (0 ≤ (j : Int) ∧ (j : Int) ≤ (l.length : Int)) && true then some (insA l (Int.toNat (j : Int)) x) else none)) = _
      rw [e1, e2, Int.toNat_natCast, h3]
      rfl
end
end Ev
end Go.Proofs.YtefjcgbidillhaaGreat
