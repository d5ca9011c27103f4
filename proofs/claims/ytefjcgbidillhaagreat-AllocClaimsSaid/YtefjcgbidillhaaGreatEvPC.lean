/- PLAIN LAWS: the references' tables. -/
import Derived.Test.YtefjcgbidillhaaGreatEvPB
namespace Go.Proofs.YtefjcgbidillhaaGreat
open Go
namespace Ev
set_option linter.unusedVariables false
section
variable {t : Ty}
theorem bigle {n : Nat} (h : n ≤ 1000000) : Nat.ble n big = true := Nat.ble_eq_true_of_le h
theorem rput1 (l : List t.D) (x : t.D) (o : t.D → Option Int) (f : t.D → Int) (hf : ∀ y, o y = some (f y)) (hl : l.length ≤ 100000) (step : Int → Option (Int ⊕ (List t.D ⊕ Unit)))
    (hs : ∀ i : Int, step i = (bif decide (i < (↑(List.length l) : Int)) then (bif decide (0 ≤ i ∧ i < (↑(List.length l) : Int)) then (bif Option.isSome (o (rd t l (Int.toNat i))) then (bif Option.getD (o (rd t l (Int.toNat i))) default == 0 then (bif Nat.ble (List.length ([] : List t.D) + List.length l) big then (bif decide (0 ≤ i ∧ i < (↑(List.length ([] ++ l)) : Int)) then some (.inr (.inl (List.set ([] ++ l) (Int.toNat i) x))) else none) else none) else some (.inl (IntKind.wrap IntKind.i64 (i + 1)))) else none) else none) else some (.inr (.inr ())))) :
    run step 0 = some (match l.findIdx? (fun y => f y == 0) with | some i => .inl (l.set i x) | none => .inr ()) := by
  refine run_idx l (fun y => f y == 0) (fun i => .inl (l.set i x)) (.inr ()) step (fun i hi => ?_) ?_
  · rw [hs, rd_at hi, hf]
    have h1 : decide ((i : Int) < (l.length : Int)) = true := by simp; exact hi
    have h2 : decide (0 ≤ (i : Int) ∧ (i : Int) < (l.length : Int)) = true := by simp; exact hi
    rw [List.nil_append, h1, h2, wrap_nat (by omega), List.length_nil, Nat.zero_add, bigle (by omega)]
    simp only [cond_true, Option.isSome_some, Option.getD_some, Int.toNat_natCast]
    cases f l[i] == 0 <;> rfl
  · rw [hs]
    simp

/-- What the second round does. -/
def insF {α : Type} (q : α → Bool) (x : α) (s : Bool × List α) (a : α) : (Bool × List α) ⊕ (Bool × List α) :=
  .inl (bif !s.1 && q a then (true, s.2 ++ [x] ++ [a]) else (s.1, s.2 ++ [a]))

theorem insF_fold {α : Type} {q : α → Bool} {x : α} : ∀ (l : List α) (o : List α),
    (foldE (insF q x) id (true, o) l = (true, o ++ l)) ∧
    (let r := foldE (insF q x) id (false, o) l; (bif !r.1 then r.2 ++ [x] else r.2) = o ++ insP q x l)
  | [], o => by simp [foldE, insP]
  | a :: l, o => by
    constructor
    · simp only [foldE, insF, Bool.not_true, Bool.false_and, cond_false]
      rw [(insF_fold l _).1]; simp
    · simp only [foldE, insF, Bool.not_false, Bool.true_and]
      unfold insP
      cases q a with
      | true =>
        simp only [cond_true]
        rw [(insF_fold l _).1]
        simp
      | false =>
        simp only [cond_false]
        have := (insF_fold (q := q) (x := x) l (o ++ [a])).2
        simp only at this
        rw [this]
        simp

theorem rput2 (l : List t.D) (x : t.D) (o : t.D → Option Int) (f : t.D → Int) (hf : ∀ y, o y = some (f y)) (hl : l.length ≤ 100000) (step : Bool × Int × List t.D → Option ((Bool × Int × List t.D) ⊕ (Bool × List t.D)))
    (hs : ∀ s : Bool × Int × List t.D, step s = (bif decide (s.2.1 < (↑(List.length l) : Int)) then (bif !s.1 then (bif decide (0 ≤ s.2.1 ∧ s.2.1 < (↑(List.length l) : Int)) then (bif Option.isSome (o (rd t l (Int.toNat s.2.1))) then (bif decide (Option.getD (o (rd t l (Int.toNat s.2.1))) default > 0) then (bif Nat.ble (List.length s.2.2 + List.length [x]) big then (bif decide (0 ≤ s.2.1 ∧ s.2.1 < (↑(List.length l) : Int)) then (bif Nat.ble (List.length (s.2.2 ++ [x]) + List.length [rd t l (Int.toNat s.2.1)]) big then some (.inl (true, IntKind.wrap IntKind.i64 (s.2.1 + 1), s.2.2 ++ [x] ++ [rd t l (Int.toNat s.2.1)])) else none) else none) else none) else (bif decide (0 ≤ s.2.1 ∧ s.2.1 < (↑(List.length l) : Int)) then (bif Nat.ble (List.length s.2.2 + List.length [rd t l (Int.toNat s.2.1)]) big then some (.inl (s.1, IntKind.wrap IntKind.i64 (s.2.1 + 1), s.2.2 ++ [rd t l (Int.toNat s.2.1)])) else none) else none)) else none) else none) else (bif decide (0 ≤ s.2.1 ∧ s.2.1 < (↑(List.length l) : Int)) then (bif Nat.ble (List.length s.2.2 + List.length [rd t l (Int.toNat s.2.1)]) big then some (.inl (s.1, IntKind.wrap IntKind.i64 (s.2.1 + 1), s.2.2 ++ [rd t l (Int.toNat s.2.1)])) else none) else none)) else some (.inr (s.1, s.2.2)))) :
    run step (false, 0, []) = some (foldE (insF (fun y => decide (f y > 0)) x) id (false, []) l) := by
  refine run_foldI l (fun i (s : Bool × List t.D) => (s.1, (i : Int), s.2)) (insF (fun y => decide (f y > 0)) x) id step (fun i s => s.2.length ≤ 2 * i) (fun i hi s hI => ?_) (fun i hi s s' hI hs' => ?_) (fun s hI => ?_) (false, []) (by simp)
  · obtain ⟨d, out⟩ := s
    rw [hs]
    simp only at hI ⊢
    have h1 : decide ((i : Int) < (l.length : Int)) = true := by simp; exact hi
    have h2 : decide (0 ≤ (i : Int) ∧ (i : Int) < (l.length : Int)) = true := by simp; exact hi
    rw [rd_at hi, hf, h1, h2, wrap_nat (by omega), bigle (by simp; omega), bigle (by simp; omega), bigle (by simp; omega)]
    simp only [cond_true, Option.isSome_some, Option.getD_some, insF]
    cases d <;> cases decide (f l[i] > 0) <;> rfl
  · simp only [insF, Sum.inl.injEq] at hs'
    subst hs'
    cases !s.1 && decide (f l[i] > 0) <;> simp <;> omega
  · rw [hs]
    simp

theorem rput_fun (l : List t.D) (x : t.D) (f : t.D → Int) {o1 : Option (List t.D ⊕ Unit)} {o2 : Option (Bool × List t.D)} (hl : l.length ≤ 100000)
    (h1 : o1 = some (match l.findIdx? (fun y => f y == 0) with | some i => .inl (l.set i x) | none => .inr ()))
    (h2 : o2 = some (foldE (insF (fun y => decide (f y > 0)) x) id (false, []) l)) :
    (bif Option.isSome o1 then (bif isL (Option.getD o1 default) then some (getL (Option.getD o1 default)) else (bif Option.isSome o2 then (bif !Prod.fst (Option.getD o2 default) then (bif Nat.ble (List.length (Prod.snd (Option.getD o2 default)) + List.length [x]) big then some (Prod.snd (Option.getD o2 default) ++ [x]) else none) else some (Prod.snd (Option.getD o2 default))) else none)) else none)
      = some (putC (fun y => f y == 0) (fun y => decide (f y > 0)) x l) := by
  subst h1 h2
  unfold putC
  rw [any_of_idx]
  cases hi : l.findIdx? (fun y => f y == 0) with
  | some i =>
    rw [← setP_idx hi]
    rfl
  | none =>
    have := (insF_fold (q := fun y => decide (f y > 0)) (x := x) l []).2
    simp only [List.nil_append] at this
    have hlen : ∀ (m : List t.D) (s : Bool × List t.D), (foldE (insF (fun y => decide (f y > 0)) x) id s m).2.length ≤ s.2.length + 2 * m.length := by
      intro m
      induction m with
      | nil => intro s; simp [foldE]
      | cons a m ih =>
        intro s
        simp only [foldE, insF]
        refine Nat.le_trans (ih _) ?_
        cases !s.1 && decide (f a > 0) <;> simp <;> omega
    have hb := hlen l (false, [])
    simp only [List.length_nil] at hb
    simp only [Option.isSome_some, Option.isSome_none, Option.getD_some, cond_true, cond_false]
    rw [← this]
    show (bif !(foldE (insF (fun y => decide (f y > 0)) x) id (false, []) l).1 then (bif Nat.ble ((foldE (insF (fun y => decide (f y > 0)) x) id (false, []) l).2.length + 1) big then some ((foldE (insF (fun y => decide (f y > 0)) x) id (false, []) l).2 ++ [x]) else none) else some (foldE (insF (fun y => decide (f y > 0)) x) id (false, []) l).2) = _
    rw [bigle (by omega)]
    cases (foldE (insF (fun y => decide (f y > 0)) x) id (false, []) l).1 <;> rfl

def drpF {α : Type} (p : α → Bool) (s : Bool × List α) (a : α) : (Bool × List α) ⊕ List α :=
  .inl (bif !s.1 && p a then (true, s.2) else (s.1, s.2 ++ [a]))
theorem drpF_fold {α : Type} {p : α → Bool} : ∀ (l : List α) (o : List α),
    (foldE (drpF p) Prod.snd (true, o) l = o ++ l) ∧ (foldE (drpF p) Prod.snd (false, o) l = o ++ l.eraseP p)
  | [], o => by simp [foldE]
  | a :: l, o => by
    constructor
    · simp only [foldE, drpF, Bool.not_true, Bool.false_and, cond_false]
      rw [(drpF_fold l _).1]; simp
    · simp only [foldE, drpF, Bool.not_false, Bool.true_and]
      rw [List.eraseP_cons]
      cases p a with
      | true => simp only [cond_true]; rw [(drpF_fold l _).1]
      | false => simp only [cond_false]; rw [(drpF_fold l _).2]; simp

theorem rdrop_fun (l : List t.D) (o : t.D → Option Int) (f : t.D → Int) (hf : ∀ y, o y = some (f y)) (hl : l.length ≤ 100000) (step : Bool × Int × List t.D → Option ((Bool × Int × List t.D) ⊕ List t.D))
    (hs : ∀ s : Bool × Int × List t.D, step s = (bif decide (s.2.1 < (↑(List.length l) : Int)) then (bif !s.1 then (bif decide (0 ≤ s.2.1 ∧ s.2.1 < (↑(List.length l) : Int)) then (bif Option.isSome (o (rd t l (Int.toNat s.2.1))) then (bif Option.getD (o (rd t l (Int.toNat s.2.1))) default == 0 then some (.inl (true, IntKind.wrap IntKind.i64 (s.2.1 + 1), s.2.2)) else (bif decide (0 ≤ s.2.1 ∧ s.2.1 < (↑(List.length l) : Int)) then (bif Nat.ble (List.length s.2.2 + List.length [rd t l (Int.toNat s.2.1)]) big then some (.inl (s.1, IntKind.wrap IntKind.i64 (s.2.1 + 1), s.2.2 ++ [rd t l (Int.toNat s.2.1)])) else none) else none)) else none) else none) else (bif decide (0 ≤ s.2.1 ∧ s.2.1 < (↑(List.length l) : Int)) then (bif Nat.ble (List.length s.2.2 + List.length [rd t l (Int.toNat s.2.1)]) big then some (.inl (s.1, IntKind.wrap IntKind.i64 (s.2.1 + 1), s.2.2 ++ [rd t l (Int.toNat s.2.1)])) else none) else none)) else some (.inr s.2.2))) :
    (bif Option.isSome (run step (false, 0, [])) then some (Option.getD (run step (false, 0, [])) default) else none) = some (l.eraseP (fun y => f y == 0)) := by
  have key : run step (false, 0, []) = some (foldE (drpF (fun y => f y == 0)) Prod.snd (false, []) l) := by
    refine run_foldI l (fun i (s : Bool × List t.D) => (s.1, (i : Int), s.2)) (drpF (fun y => f y == 0)) Prod.snd step (fun i s => s.2.length ≤ i) (fun i hi s hI => ?_) (fun i hi s s' hI hs' => ?_) (fun s hI => ?_) (false, []) (by simp)
    · obtain ⟨d, out⟩ := s
      rw [hs]
      simp only at hI ⊢
      have h1 : decide ((i : Int) < (l.length : Int)) = true := by simp; exact hi
      have h2 : decide (0 ≤ (i : Int) ∧ (i : Int) < (l.length : Int)) = true := by simp; exact hi
      rw [rd_at hi, hf, h1, h2, wrap_nat (by omega), bigle (by simp; omega)]
      simp only [cond_true, Option.isSome_some, Option.getD_some, drpF]
      cases d <;> cases f l[i] == 0 <;> rfl
    · simp only [drpF, Sum.inl.injEq] at hs'
      subst hs'
      cases !s.1 && (f l[i] == 0) <;> simp <;> omega
    · rw [hs]
      simp
  rw [key, (drpF_fold l []).2]
  rfl
/-- Texts, one by one. -/
theorem rtexts_fun (l1 l2 : List Str) (hl : l1.length ≤ 100000) (h12 : l2.length = l1.length) (step : Int → Option (Int ⊕ (Int ⊕ Unit)))
    (hs : ∀ i : Int, step i = (bif decide (i < (↑(List.length l1) : Int)) then (bif decide (0 ≤ i ∧ i < (↑(List.length l1) : Int)) then (bif decide (0 ≤ i ∧ i < (↑(List.length l2) : Int)) then (bif Op.bytesLess (ByteArray.toList (rd Ty.str l1 (Int.toNat i))) (ByteArray.toList (rd Ty.str l2 (Int.toNat i))) then some (.inr (.inl (-1))) else (bif decide (0 ≤ i ∧ i < (↑(List.length l1) : Int)) then (bif decide (0 ≤ i ∧ i < (↑(List.length l2) : Int)) then (bif !(Op.bytesLess (ByteArray.toList (rd Ty.str l1 (Int.toNat i))) (ByteArray.toList (rd Ty.str l2 (Int.toNat i))) || ByteArray.toList (rd Ty.str l1 (Int.toNat i)) == ByteArray.toList (rd Ty.str l2 (Int.toNat i))) then some (.inr (.inl 1)) else some (.inl (IntKind.wrap IntKind.i64 (i + 1)))) else none) else none)) else none) else none) else some (.inr (.inr ())))) :
    (bif Option.isSome (run step 0) then (bif isL (Option.getD (run step 0) default) then some (getL (Option.getD (run step 0) default)) else some 0) else none) = some (orI (List.zipWith cmpS l1 l2)) := by
  have key : run step 0 = some (((l1.zip l2).findSome? (fun a => match cmpS a.1 a.2 != 0 with | true => some (.inl (cmpS a.1 a.2)) | false => none)).getD (.inr ())) := by
    refine run_find (l1.zip l2) _ (.inr ()) step (fun i hi => ?_) ?_
    · have hi1 : i < l1.length := by simp at hi; omega
      have hi2 : i < l2.length := by omega
      have e1 : rd Ty.str l1 (Int.toNat (i : Int)) = l1[i] := rd_at hi1
      have e2 : rd Ty.str l2 (Int.toNat (i : Int)) = l2[i] := rd_at hi2
      rw [hs, e1, e2]
      have h1 : decide ((i : Int) < (l1.length : Int)) = true := by simp; exact hi1
      have h2 : decide (0 ≤ (i : Int) ∧ (i : Int) < (l1.length : Int)) = true := by simp; exact hi1
      have h3 : decide (0 ≤ (i : Int) ∧ (i : Int) < (l2.length : Int)) = true := by simp; exact hi2
      rw [h1, h2, h3, wrap_nat (by omega), List.getElem_zip]
      simp only [cond_true, cmpS, sLt, sEq]
      generalize Op.bytesLess (ByteArray.toList l1[i]) (ByteArray.toList l2[i]) = p
      generalize (ByteArray.toList l1[i] == ByteArray.toList l2[i]) = q
      cases p <;> cases q <;> rfl
    · rw [hs]
      simp [h12]
  rw [key]
  have e : ∀ (m1 m2 : List Str), ((m1.zip m2).findSome? (fun a => match cmpS a.1 a.2 != 0 with | true => some (Sum.inl (cmpS a.1 a.2) : Int ⊕ Unit) | false => none)).getD (.inr ()) = (match (List.zipWith cmpS m1 m2).find? (· != 0) with | some n => .inl n | none => .inr ()) := by
    intro m1
    induction m1 with
    | nil => intro m2; rfl
    | cons a m1 ih =>
      intro m2
      cases m2 with
      | nil => rfl
      | cons b m2 =>
        simp only [List.zip_cons_cons, List.findSome?_cons, List.zipWith_cons_cons, List.find?_cons]
        cases cmpS a b != 0 with
        | true => rfl
        | false => exact ih m2
  rw [e]
  have o : ∀ m : List Int, orI m = (m.find? (· != 0)).getD 0 := by
    intro m
    induction m with
    | nil => rfl
    | cons a m ih =>
      simp only [orI, List.find?_cons]
      cases a != 0 with
      | true => rfl
      | false => exact ih
  rw [o]
  cases (List.zipWith cmpS l1 l2).find? (· != 0) <;> rfl
end
end Ev
end Go.Proofs.YtefjcgbidillhaaGreat
