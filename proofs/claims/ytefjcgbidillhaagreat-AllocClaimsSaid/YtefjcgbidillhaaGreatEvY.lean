/- Struct and array values that are built; slices of slices. -/
import Derived.Test.YtefjcgbidillhaaGreatEvW
namespace Go.Proofs.YtefjcgbidillhaaGreat
open Go
open Go.RowKit (Below)
namespace Ev
set_option linter.unusedVariables false

theorem foldl_put (off : Nat) : ∀ (vs : List Value) (k : Nat) (cells : Array Value), off + k + vs.length ≤ cells.size →
    (vs.zipIdx k).foldl (fun cs (x : Value × Nat) => cs.setIfInBounds (off + x.2) x.1) cells = (cells.toList.take (off + k) ++ vs ++ cells.toList.drop (off + k + vs.length)).toArray
  | [], k, cells, h => by simp
  | v :: vs, k, cells, h => by
    simp only [List.zipIdx_cons, List.foldl_cons, List.length_cons] at h ⊢
    rw [foldl_put off vs (k + 1) _ (by simp; omega)]
    congr 1
    have hh := list_seg_step cells.toList (off + k) v vs (by simp; omega)
    have e1 : off + (k + 1) = off + k + 1 := by omega
    have e2 : off + k + (vs.length + 1) = off + k + 1 + vs.length := by omega
    simp only [Array.toList_setIfInBounds, e1, e2] at hh ⊢
    exact hh

theorem fill_cons {place : Nat → Option (Nat × Nat)} {cells : Array Value} {i off size : Nat} {v : Value} {rest : List (Nat × Value)} (hp : place i = some (off, size)) (hs : v.cells.size = size) (hf : off + size ≤ cells.size) :
    Instr.fill place cells ((i, v) :: rest) = Instr.fill place (cells.toList.take off ++ v.cells.toList ++ cells.toList.drop (off + size)).toArray rest := by
  have h := foldl_put off v.cells.toList 0 cells (by simp; omega)
  have e : v.cells.zipIdx.foldl (fun cs (x : Value × Nat) => cs.setIfInBounds (off + x.2) x.1) cells = (v.cells.toList.zipIdx 0).foldl (fun cs (x : Value × Nat) => cs.setIfInBounds (off + x.2) x.1) cells := by
    rw [← Array.foldl_toList, Array.toList_zipIdx]
  simp only [Instr.fill, hp]
  rw [if_neg (by simp [hs]; omega)]
  congr 1
  rw [← hs]
  simpa using e.trans h

section
variable {P : Program} {E : Env} {w : World} {σ : Wh} {M : Nat → Prop} {base : Nat} {m : Mem}

theorem flat_ok {x : A} {l : List C} {v : Value} (h : x.flat = some l) (hr : RA w σ M x v) : Rs w σ M l v.cells.toList := by
  unfold A.flat at h
  split at h
  · rename_i c
    simp only [Option.some.injEq] at h
    subst h
    obtain ⟨hl, hr⟩ := hr
    rw [Rs_single]
    have h1 := R1_one _ _ hr v (by simp)
    have h2 : v.cells = #[v] := by cases v <;> first | rfl | simp [Value.oneCell'] at h1
    rw [h2]; exact hr
  · simp only [Option.some.injEq] at h
    subst h
    obtain ⟨vs, rfl, hr⟩ := hr
    simpa [Value.cells] using hr
  · cases h

theorem partsA_ok {ρ : Operand → A} {ev : Operand → Value} (hρ : ∀ x, RA w σ M (ρ x) (ev x)) : ∀ (ps : List (Nat × Operand)) (l : List (Nat × List C)), partsA ρ ps = some l →
    F2 (fun x y => x.1 = y.1 ∧ Rs w σ M x.2 y.2.cells.toList) l (ps.map fun x => (x.1, ev x.2))
  | [], l, h => by simp [partsA] at h; subst h; trivial
  | (i, x) :: r, l, h => by
    simp only [partsA] at h
    split at h
    · rename_i l1 r1 h1 h2
      simp only [Option.some.injEq] at h
      subst h
      exact ⟨⟨rfl, flat_ok h1 (hρ x)⟩, partsA_ok hρ r r1 h2⟩
    · cases h

theorem buildA_ok {pl : Nat → Option (Nat × Nat)} {place : Nat → Option (Nat × Nat)} (hp : ∀ i o n, pl i = some (o, n) → place i = some (o, n)) :
    ∀ (l : List (Nat × List C)) (ps : List (Nat × Value)) (acc l' : List C) (cells : Array Value), F2 (fun x y => x.1 = y.1 ∧ Rs w σ M x.2 y.2.cells.toList) l ps → Rs w σ M acc cells.toList →
      buildA E acc l pl = some l' → ∃ cells', Instr.fill place cells ps = some cells' ∧ Rs w σ M l' cells'.toList
  | [], [], acc, l', cells, _, hr, h => by
    simp only [buildA, Option.some.injEq] at h
    subst h
    exact ⟨cells, rfl, hr⟩
  | (i, x) :: l, (j, v) :: ps, acc, l', cells, ⟨⟨e, hx⟩, hrest⟩, hr, h => by
    simp only at e hx
    subst e
    simp only [buildA] at h
    split at h
    · rename_i o n hpl
      split at h
      · rename_i acc' hw
        obtain ⟨h0, h1, h2⟩ := writeC_ok hw hr hx
        have hvs : v.cells.size = n := by rw [← h0]; simp
        obtain ⟨cells', h3, h4⟩ := buildA_ok hp l ps acc' l' (cells.toList.take o ++ v.cells.toList ++ cells.toList.drop (o + n)).toArray hrest (by simpa using h2) h
        exact ⟨cells', by rw [fill_cons (hp i o n hpl) hvs (by simpa using h1)]; exact h3, h4⟩
      · cases h
    · cases h
  | [], _ :: _, _, _, _, h, _, _ => h.elim
  | _ :: _, [], _, _, _, h, _, _ => h.elim

end
end Ev
end Go.Proofs.YtefjcgbidillhaaGreat
