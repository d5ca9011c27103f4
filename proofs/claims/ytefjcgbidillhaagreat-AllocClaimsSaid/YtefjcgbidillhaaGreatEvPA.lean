/- PLAIN LAWS: loops over lists, whole numbers, texts. -/
import Derived.Test.YtefjcgbidillhaaGreatEvF1
import Derived.Laws.Strings
namespace Go.Proofs.YtefjcgbidillhaaGreat
open Go
namespace Ev
set_option linter.unusedVariables false

theorem wrap_id {n : Int} (h1 : -9223372036854775808 ≤ n) (h2 : n ≤ 9223372036854775807) : IntKind.wrap .i64 n = n := by
  rw [IntKind.wrap_i64]; omega
theorem wrap_nat {n : Nat} (h2 : n < 4611686018427387904) : IntKind.wrap .i64 ((n : Int) + 1) = ((n + 1 : Nat) : Int) := by
  rw [wrap_id (by omega) (by omega)]; omega

theorem rd_at {t : Ty} {l : List t.D} {i : Nat} (h : i < l.length) : rd t l (Int.toNat (i : Int)) = l[i] := by
  unfold rd
  rw [Int.toNat_natCast, List.getD_eq_getElem?_getD, List.getElem?_eq_getElem h]
  rfl

section
variable {α σ ρ S : Type}
/-- A fold that may end early. -/
def foldE (f : σ → α → σ ⊕ ρ) (fin : σ → ρ) : σ → List α → ρ
  | s, [] => fin s
  | s, a :: l => match f s a with
    | .inl s' => foldE f fin s' l
    | .inr r => r

theorem run_foldI (l : List α) (mk : Nat → σ → S) (f : σ → α → σ ⊕ ρ) (fin : σ → ρ) (step : S → Option (S ⊕ ρ)) (I : Nat → σ → Prop)
    (h : ∀ i (hi : i < l.length) s, I i s → step (mk i s) = some (match f s l[i] with | .inl s' => .inl (mk (i + 1) s') | .inr r => .inr r))
    (hI : ∀ i (hi : i < l.length) s s', I i s → f s l[i] = .inl s' → I (i + 1) s')
    (h' : ∀ s, I l.length s → step (mk l.length s) = some (.inr (fin s))) (s0 : σ) (h0 : I 0 s0) : run step (mk 0 s0) = some (foldE f fin s0 l) := by
  have key : ∀ (m : List α) (i : Nat) (s : σ), l.drop i = m → i ≤ l.length → I i s → run step (mk i s) = some (foldE f fin s m) := by
    intro m
    induction m with
    | nil =>
      intro i s hd hi hs
      have : i = l.length := by have := congrArg List.length hd; simp at this; omega
      subst this
      rw [run_eq, h' s hs]
      rfl
    | cons a m ih =>
      intro i s hd hi hs
      have hlt : i < l.length := by
        rcases Nat.lt_or_ge i l.length with h1 | h1
        · exact h1
        · rw [List.drop_of_length_le h1] at hd; cases hd
      have hcons := List.drop_eq_getElem_cons hlt
      rw [hd] at hcons
      simp only [List.cons.injEq] at hcons
      obtain ⟨ha, hm⟩ := hcons
      rw [run_eq, h i hlt s hs]
      simp only [foldE, ha]
      cases hf : f s l[i] with
      | inl s' => exact ih (i + 1) s' hm.symm hlt (hI i hlt s s' hs hf)
      | inr r => rfl
  exact key l 0 s0 rfl (Nat.zero_le _) h0

theorem run_fold (l : List α) (mk : Nat → σ → S) (f : σ → α → σ ⊕ ρ) (fin : σ → ρ) (step : S → Option (S ⊕ ρ))
    (h : ∀ i (hi : i < l.length) s, step (mk i s) = some (match f s l[i] with | .inl s' => .inl (mk (i + 1) s') | .inr r => .inr r))
    (h' : ∀ s, step (mk l.length s) = some (.inr (fin s))) (s0 : σ) : run step (mk 0 s0) = some (foldE f fin s0 l) :=
  run_foldI l mk f fin step (fun _ _ => True) (fun i hi s _ => h i hi s) (fun _ _ _ _ _ _ => trivial) (fun s _ => h' s) s0 trivial

/-- A search. -/
theorem run_find (l : List α) (g : α → Option ρ) (d : ρ) (step : Int → Option (Int ⊕ ρ))
    (h : ∀ i (hi : i < l.length), step (i : Int) = some (match g l[i] with | some r => .inr r | none => .inl ((i + 1 : Nat) : Int)))
    (h' : step (l.length : Int) = some (.inr d)) : run step 0 = some ((l.findSome? g).getD d) := by
  have := run_fold l (fun i (_ : Unit) => (i : Int)) (fun _ a => match g a with | some r => .inr r | none => .inl ()) (fun _ => d) step (fun i hi s => by
    rw [h i hi]
    cases g l[i] <;> rfl) (fun _ => h') ()
  have e : ∀ l : List α, foldE (fun (_ : Unit) a => match g a with | some r => Sum.inr r | none => .inl ()) (fun _ => d) () l = (l.findSome? g).getD d := by
    intro l
    induction l with
    | nil => rfl
    | cons a l ih =>
      simp only [foldE, List.findSome?_cons]
      cases g a with
      | none => exact ih
      | some r => rfl
  rw [e] at this
  exact this

/-- A search for a place. -/
theorem run_idx (l : List α) (p : α → Bool) (hit : Nat → ρ) (d : ρ) (step : Int → Option (Int ⊕ ρ))
    (h : ∀ i (hi : i < l.length), step (i : Int) = some (match p l[i] with | true => .inr (hit i) | false => .inl ((i + 1 : Nat) : Int)))
    (h' : step (l.length : Int) = some (.inr d)) : run step 0 = some (match l.findIdx? p with | some i => hit i | none => d) := by
  have key : ∀ (m : List α) (i : Nat), l.drop i = m → i ≤ l.length → run step (i : Int) = some (match m.findIdx? p with | some j => hit (i + j) | none => d) := by
    intro m
    induction m with
    | nil =>
      intro i hd hi
      have : i = l.length := by have := congrArg List.length hd; simp at this; omega
      subst this
      rw [run_eq, h']
      rfl
    | cons a m ih =>
      intro i hd hi
      have hlt : i < l.length := by
        rcases Nat.lt_or_ge i l.length with h1 | h1
        · exact h1
        · rw [List.drop_of_length_le h1] at hd; cases hd
      have hcons := List.drop_eq_getElem_cons hlt
      rw [hd] at hcons
      simp only [List.cons.injEq] at hcons
      obtain ⟨ha, hm⟩ := hcons
      rw [run_eq, h i hlt, ← ha, List.findIdx?_cons]
      cases hp : p a with
      | true => simp
      | false =>
        simp only [Bool.false_eq_true, if_false]
        rw [ih (i + 1) hm.symm hlt]
        cases hq : m.findIdx? p with
        | none => rfl
        | some j =>
          simp only [Option.map_some]
          rw [show i + 1 + j = i + (j + 1) by omega]
  have := key l 0 rfl (Nat.zero_le _)
  simpa using this
end

theorem toList_eq {a b : Str} : (a.toList == b.toList) = decide (a = b) := by
  have h : a.toList = b.toList ↔ a = b := by
    constructor
    · intro h
      have h1 : a.data.toList = b.data.toList := by
        have := h
        rwa [ByteArray.toList_eq, ByteArray.toList_eq] at this
      cases a; cases b
      simp only [ByteArray.mk.injEq]
      exact Array.toList_inj.1 h1
    · rintro rfl; rfl
  by_cases hab : a = b
  · simp [hab]
  · simp [hab, h]
end Ev
end Go.Proofs.YtefjcgbidillhaaGreat
