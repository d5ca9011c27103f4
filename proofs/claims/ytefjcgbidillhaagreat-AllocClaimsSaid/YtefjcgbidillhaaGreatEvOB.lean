/- A STATE THAT SAYS LESS; ONE OPERATION; A REGION IN ITS TEXT'S ORDER. -/
import Derived.Test.YtefjcgbidillhaaGreatEvOA
namespace Go.Proofs.YtefjcgbidillhaaGreat
open Go
open Go.RowKit (Below)
namespace Ev
set_option linter.unusedVariables false

section
variable {P : Program} {E : Env} {N : Nat → Prop} {fb : Nat} {w0 w w' : World} {σ σ' : Wh} {S S' : St} {a : Act} {call : CallT}

/-- T says less than U: the same, or nothing. -/
def LessA (x y : A) : Prop := x = y ∨ x = .dead

theorem F2_less {M : Nat → Prop} : ∀ {T U : List A} {vs : List Value}, F2 LessA T U → F2 (RA w σ M) U vs → F2 (RA w σ M) T vs
  | [], [], _, _, h => h
  | [], _ :: _, _, h, _ => h.elim
  | _ :: _, [], _, h, _ => h.elim
  | x :: T, y :: U, [], _, h => h.elim
  | x :: T, y :: U, v :: vs, ⟨h1, h2⟩, ⟨h3, h4⟩ => ⟨by rcases h1 with rfl | rfl; exact h3; trivial, F2_less h2 h4⟩

theorem Sim.less (h : Sim N fb w0 σ S a w) {T : List A} {m : Mem} (ht : F2 LessA T S.tmps) (hb : ∀ b l, getB m b = some l → getB S.mem b = some l) (ho : ∀ i o, getO m i = some o → getO S.mem i = some o) :
    Sim N fb w0 σ ⟨T, m⟩ a w := by
  have hM : ∀ g, Mt N fb σ m g → Mt N fb σ S.mem g := by
    rintro g (h1 | ⟨b, l, h1, h2, h3⟩ | ⟨i, o, h1, h2⟩)
    · exact .inl h1
    · exact .inr (.inl ⟨b, l, h1, hb b l h2, h3⟩)
    · exact .inr (.inr ⟨i, o, ho i o h1, h2⟩)
  have k : Keeps w (Mt N fb σ S.mem) w (Mt N fb σ m) := ⟨fun _ _ _ => rfl, fun g _ hm => hM g hm⟩
  exact {
    defers := h.defers
    tmps := F2_less ht (h.tmps.mono fun x _ v hv => RA_keep hv k fun c _ => Agree.refl σ c)
    box := fun b l hl => by
      obtain ⟨c, e, hc, hr⟩ := h.box b l (hb b l hl)
      exact ⟨c, e, hc, Rs_keep hr k fun c _ => Agree.refl σ c⟩
    bnew := fun b l hl => h.bnew b l (hb b l hl)
    bold := fun b l hl => h.bold b l (hb b l hl)
    binj := fun b b' l l' hl hl' => h.binj b b' l l' (hb b l hl) (hb b' l' hl')
    own := fun i o hi => h.own i o (ho i o hi)
    oinj := fun i i' o o' g hi hi' => h.oinj i i' o o' g (ho i o hi) (ho i' o' hi')
    sep := fun b l i o g hl hi => h.sep b l i o g (hb b l hl) (ho i o hi)
    below := h.below
    nlt := h.nlt }

theorem F2_refl_less : ∀ T : List A, F2 LessA T T
  | [] => trivial
  | x :: T => ⟨.inl rfl, F2_refl_less T⟩

theorem wp_of_res {o : Oper} {x : A} {K : Act → World → Prop} {Q : Exit → Act → World → Prop} (h : Res P N fb w0 a w (execOp a.eval o) x S) (hK : ∀ σ' a' w', Sim N fb w0 σ' (putA o.dst x S) a' w' → K a' w') : o.wp P a w K Q := by
  unfold Oper.wp
  rcases h with ⟨v, w', σ', h1, h2, h3⟩ | ⟨w', σ', h1, h2, rfl⟩ | ⟨f, vs, h1, h2⟩
  · rw [h1]
    exact hK σ' _ w' (h2.put h3 _)
  · rw [h1]
    exact hK σ' _ w' (h2.put (x := .dead) trivial _)
  · rw [h1]
    exact h2.mono fun e w' ⟨v, σ', he, g1, g2⟩ => by subst he; exact hK σ' _ w' (g1.put g2 _)

theorem stepA_ok (hE : EnvOK P E) (hO : OwnOK P E) (hc : CallOK P call) (h : Sim N fb w0 σ S a w) {o : Oper} (hs : stepA E call fb o S = some (true, S')) {K : Act → World → Prop} {Q : Exit → Act → World → Prop}
    (hK : ∀ σ' a' w', Sim N fb w0 σ' S' a' w' → K a' w') : o.wp P a w K Q := by
  obtain ⟨⟨b, x, S1⟩, hx, e⟩ := Option.map_eq_some_iff.1 hs
  simp only [Prod.mk.injEq] at e
  obtain ⟨rfl, rfl⟩ := e
  exact wp_of_res (opA_ok hE hO hc h hx) hK

/-- Whether an operation is wanted. -/
def wantA (ops : Array Oper) (S : St) (o : Oper) : Option Bool :=
  match o.guard with
  | none => some true
  | some (j, want) => match (ops[j]?).bind (·.dst) with
    | none => none
    | some t => match S.tmps[t]? with
      | some (.s (.v (.bool b))) => some (b == want)
      | _ => none

theorem wantA_ok (h : Sim N fb w0 σ S a w) {ops : Array Oper} {o : Oper} {b : Bool} (hw : wantA ops S o = some b) : Region.wanted o (yielded ops a.tmps) = b := by
  unfold wantA at hw
  unfold Region.wanted
  split at hw
  · rename_i hg
    rw [hg]; simpa using hw
  · rename_i j want hg
    rw [hg]
    simp only
    split at hw
    · cases hw
    · rename_i t ht
      split at hw
      · rename_i c hc
        obtain ⟨v, hv, hr⟩ := h.tmps.get t _ hc
        have hr := of_RA_v hr
        subst hr
        have : a.tmps[t]? = some (.bool c) := by simpa using hv
        unfold yielded
        rw [ht]
        simp only [Option.bind_some, this]
        simp only [Option.some.injEq] at hw
        rw [← hw]
        cases c <;> cases want <;> rfl
      · cases hw

theorem putA_same {t : Nat} {x : A} (h : S.tmps[t]? = some x) : putA (some t) x S = S := by
  obtain ⟨hl, hx⟩ := List.getElem?_eq_some_iff.1 h
  cases S with
  | mk T m =>
    simp only [putA] at *
    subst hx
    rw [List.set_getElem_self]

/-- One step of a region. -/
def gdA (step : Oper → St → Option (Bool × St)) (ops : Array Oper) (o : Oper) (S : St) : Option St :=
  match wantA ops S o with
  | none => none
  | some true => match step o S with
    | some (true, S') => some S'
    | _ => none
  | some false => some (putA o.dst .dead S)

theorem evG_cons {R : Type} {step : Oper → St → Option (Bool × St)} {ops : Array Oper} {o : Oper} {r : List Oper} {k : St → Option R} {x : R} (h : evG step ops (o :: r) S k = some x) :
    ∃ S', gdA step ops o S = some S' ∧ evG step ops r S' k = some x := by
  simp only [evG, forceT_eq] at h
  split at h
  · rename_i hg
    split at h
    · rename_i b S1 hs
      cases b with
      | true => exact ⟨S1, by simp only [gdA, wantA, hg, hs], h⟩
      | false => cases h
    · cases h
  · rename_i j want hg
    split at h
    · cases h
    · rename_i t ht
      split at h
      · rename_i b hb
        have hw : wantA ops S o = some (b == want) := by simp only [wantA, hg, ht, hb]
        cases b with
        | true =>
          simp only [cb, putA_same hb] at h
          cases want with
          | true =>
            simp only [if_true] at h
            split at h
            · rename_i b S1 hs
              cases b with
              | true => exact ⟨S1, by simp only [gdA, hw, beq_self_eq_true, hs], h⟩
              | false => cases h
            · cases h
          | false => exact ⟨_, by simp only [gdA, hw]; rfl, by simpa using h⟩
        | false =>
          simp only [cb, putA_same hb] at h
          cases want with
          | true => exact ⟨_, by simp only [gdA, hw]; rfl, by simpa using h⟩
          | false =>
            simp only [Bool.false_eq_true, if_false] at h
            split at h
            · rename_i b S1 hs
              cases b with
              | true => exact ⟨S1, by simp only [gdA, hw, beq_self_eq_true, hs], h⟩
              | false => cases h
            · cases h
      · cases h

theorem evOps_ok {R : Type} (hE : EnvOK P E) (hO : OwnOK P E) (hc : CallOK P call) {ops : Array Oper} {Q : Exit → Act → World → Prop} {k : St → Option R} {x : R} : ∀ (l : List Oper) {S : St} {a : Act} {w : World} {σ : Wh}, Sim N fb w0 σ S a w →
    evG (stepA E call fb) ops l S k = some x → (∀ σ' S' a' w', Sim N fb w0 σ' S' a' w' → k S' = some x → Q .normal a' w') → wpList P ops Q l a w
  | [], S, a, w, σ, h, hk, hQ => hQ σ S a w h hk
  | o :: l, S, a, w, σ, h, hk, hQ => by
    obtain ⟨S1, h1, h2⟩ := evG_cons hk
    simp only [gdA] at h1
    simp only [wpList]
    split at h1
    · cases h1
    · rename_i hw
      rw [wantA_ok h hw, if_pos rfl]
      split at h1
      case h_2 => cases h1
      rename_i S2 h3
      simp only [Option.some.injEq] at h1
      subst h1
      exact .inl (stepA_ok hE hO hc h h3 fun σ' a' w' h' => evOps_ok hE hO hc l h' h2 hQ)
    · rename_i hw
      rw [wantA_ok h hw]
      simp only [Option.some.injEq] at h1
      subst h1
      simp only [Bool.false_eq_true, if_false]
      exact evOps_ok hE hO hc l (h.put (x := .dead) trivial o.dst) h2 hQ

end
end Ev
end Go.Proofs.YtefjcgbidillhaaGreat
