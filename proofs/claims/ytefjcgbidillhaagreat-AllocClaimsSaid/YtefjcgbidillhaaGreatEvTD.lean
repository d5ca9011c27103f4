/- ENVIRONMENTS, LAYER BY LAYER: a function's contract, a loop's summary, once proved, is used by what stands above. -/
import Derived.Test.YtefjcgbidillhaaGreatEvTC
namespace Go.Proofs.YtefjcgbidillhaaGreat
open Go
open Go.RowKit (Below)
namespace Ev
set_option linter.unusedVariables false

structure AllOK (P : Program) (E : Env) : Prop where
  env : EnvOK P E
  own : OwnOK P E
  sum : SumOK P E
  gam : GamOK P E

def withG (E : Env) (f : FuncId) (g : (FuncId → List A → Option (Bool × A)) → Mem → List A → Option (Bool × A)) : Env := { E with gam := fun x => if Nat.beq x f then some g else E.gam x }
def withS (E : Env) (f : FuncId) (cur : Nat) (g : Nat → St → (Ex → St → Option A) → Option A) : Env := { E with sum := fun x y => if Nat.beq x f && Nat.beq y cur then some g else E.sum x y }
def withN (E : Env) (n : Nat) : Env := { E with F := n }
def withA (E : Env) (a : List (FuncId × Nat × List Nat × List Nat × List Nat)) : Env := { E with ann := a }

section
variable {P : Program} {E : Env}

theorem EnvOK.same {E' : Env} (h : EnvOK P E) (h1 : E'.tab = E.tab) (h2 : E'.elt = E.elt) (h3 : E'.zero = E.zero) (h4 : E'.boolT = E.boolT) (h5 : E'.strT = E.strT) (h6 : E'.fd = E.fd) (h7 : E'.intT = E.intT := by rfl) : EnvOK P E' :=
  ⟨h.mixed, by rw [h1]; exact h.tab, by rw [h3]; exact h.zero, by rw [h4]; exact h.bool, by rw [h5]; exact h.str, by rw [h7]; exact h.int, by rw [h2]; exact h.elt, by rw [h6]; exact h.fd⟩

theorem OwnOK.same {E' : Env} (h : OwnOK P E) (h1 : E'.own1 = E.own1) (h2 : E'.eat = E.eat) : OwnOK P E' := ⟨by rw [h1]; exact h.own1, by rw [h2]; exact h.eat⟩

theorem AllOK.n (h : AllOK P E) (n : Nat) : AllOK P (withN E n) := ⟨h.env.same rfl rfl rfl rfl rfl rfl, h.own.same rfl rfl, h.sum, h.gam⟩
theorem AllOK.a (h : AllOK P E) (a : List (FuncId × Nat × List Nat × List Nat × List Nat)) : AllOK P (withA E a) := ⟨h.env.same rfl rfl rfl rfl rfl rfl, h.own.same rfl rfl, h.sum, h.gam⟩

theorem AllOK.g (h : AllOK P E) {f : FuncId} {g : (FuncId → List A → Option (Bool × A)) → Mem → List A → Option (Bool × A)}
    (hg : ∀ call, CallOK P call → CallAt P f fun args m => g (fun f l => call f l (memFor l m)) m args) : AllOK P (withG E f g) :=
  ⟨h.env.same rfl rfl rfl rfl rfl rfl, h.own.same rfl rfl, h.sum, by
    intro f' g' hg' call hc
    simp only [withG] at hg'
    split at hg'
    · rename_i e
      have e := Nat.eq_of_beq_eq_true e
      subst e
      cases hg'
      exact hg call hc
    · exact h.gam f' g' hg' call hc⟩

theorem AllOK.s (h : AllOK P E) {f : FuncId} {cur : Nat} {g : Nat → St → (Ex → St → Option A) → Option A}
    (hg : ∀ fn c, E.fd f = some fn → fn.body = some c → ∀ p ∈ loopsOf c 1000000, p.1 = cur → SumAt P p.2 g) : AllOK P (withS E f cur g) :=
  ⟨h.env.same rfl rfl rfl rfl rfl rfl, h.own.same rfl rfl, by
    intro f' fn c hf hb p hp g' hg'
    simp only [withS] at hg'
    split at hg'
    · rename_i e
      simp only [Bool.and_eq_true] at e
      have e1 := Nat.eq_of_beq_eq_true e.1
      have e2 := Nat.eq_of_beq_eq_true e.2
      subst e1
      cases hg'
      exact hg fn c hf hb p hp e2
    · exact h.sum f' fn c hf hb p hp g' hg', h.gam⟩

/-- Every call that such an environment's evaluator answers comes so. -/
theorem AllOK.call (h : AllOK P E) (d : Nat) : CallOK P (callA E d) := callA_sound h.env h.own h.sum h.gam d

/-! ### arguments in their one form -/
def C.drop : C → C
  | .list t l _ => .list t l []
  | c => c

/-- An argument by its type, in its one form; what lies behind a slice's end is let go. -/
def canonD (E : Env) (T : TypeId) (x : A) : Option A := (canonA E T x).map (A.map C.drop)
def canonDs (E : Env) : List TypeId → List A → Option (List A)
  | [], [] => some []
  | T :: ts, x :: r => match canonD E T x, canonDs E ts r with
    | some x, some r => some (x :: r)
    | _, _ => none
  | _, _ => none

theorem drop_ok {w : World} {σ : Wh} {M : Nat → Prop} {c : C} {vs : List Value} (h : R1 w σ M c vs) : R1 w σ M c.drop vs := by
  cases c <;> simp only [C.drop] <;> first | exact h | skip
  rename_i t l bs
  obtain ⟨s, rfl, h⟩ := h
  refine ⟨s, rfl, ?_⟩
  rcases h with ⟨e, h1, h2⟩ | ⟨a, cap, e, h1, h2, h3, h4, h5⟩
  · exact .inl ⟨e, h1, rfl⟩
  · refine .inr ⟨a, cap, e, by simp only [List.length_nil]; omega, h2, ?_, ?_, ?_⟩
    · rcases h3 with h3 | h3
      · exact .inl (by simp only [List.append_nil]; exact (List.append_eq_nil_iff.1 h3).1)
      · exact .inr h3
    · intro j u hj
      refine h4 j u ?_
      rw [List.append_nil] at hj
      rw [List.flatMap_append, List.getElem?_append_left (List.getElem?_eq_some_iff.1 hj).1]
      exact hj
    · intro x hx
      exact h5 x (List.mem_append_left _ (by simpa using hx))

theorem drop_len {c : C} (h : c.len = true) : c.drop.len = true := by cases c <;> first | exact h | rfl

theorem canonDs_ok {w : World} {σ : Wh} {M : Nat → Prop} : ∀ {ts : List TypeId} {l l' : List A} {vs : List Value}, canonDs E ts l = some l' → F2 (RA w σ M) l vs → F2 (RA w σ M) l' vs
  | [], [], l', vs, h, hr => by simp only [canonDs, Option.some.injEq] at h; subst h; exact hr
  | T :: ts, x :: r, l', [], h, hr => hr.elim
  | T :: ts, x :: r, l', v :: vs, h, ⟨h1, h2⟩ => by
    simp only [canonDs] at h
    split at h
    · rename_i y r' hy hr'
      simp only [Option.some.injEq] at h
      subst h
      obtain ⟨z, hz, rfl⟩ := Option.map_eq_some_iff.1 hy
      exact ⟨RA_map (canonA_ok hz h1) (fun c _ vs hr => drop_ok hr) (fun c => drop_len), canonDs_ok hr' h2⟩
    · cases h
  | [], _ :: _, _, _, h, _ => by simp [canonDs] at h
  | _ :: _, [], _, _, h, _ => by simp [canonDs] at h

/-- A function's contract: on arguments in their one form. -/
def gOf (E : Env) (ts : List TypeId) (F : List A → Option (Bool × A)) : (FuncId → List A → Option (Bool × A)) → Mem → List A → Option (Bool × A) :=
  fun _ _ args => match canonDs E ts args with
    | some l => F l
    | none => none

/-- How long slices are that came in. -/
def C.lenOK : C → Prop
  | .list _ l bs => (l ++ bs).length ≤ maxLen
  | _ => True
def Lens (l : List A) : Prop := ∀ x ∈ l, match x with
  | .s c => c.lenOK
  | .g l => ∀ c ∈ l, c.lenOK
  | _ => True

theorem lenOK_of {w : World} {σ : Wh} {M : Nat → Prop} {c : C} {vs : List Value} (h : R1 w σ M c vs) : c.lenOK := by
  cases c <;> try trivial
  obtain ⟨s, _, h⟩ := h
  rcases h with ⟨_, rfl, rfl⟩ | ⟨a, cap, _, h1, h2, _⟩
  · exact Nat.zero_le _
  · simp only [C.lenOK, List.length_append]; omega

theorem lenOKs_of {w : World} {σ : Wh} {M : Nat → Prop} : ∀ {l : List C} {vs : List Value}, Rs w σ M l vs → ∀ c ∈ l, c.lenOK
  | [], _, _, _, h => by cases h
  | c :: l, _, ⟨_, _, _, h1, h2⟩, x, hx => by
    rcases List.mem_cons.1 hx with rfl | hx
    · exact lenOK_of h1
    · exact lenOKs_of h2 x hx

theorem Lens_of {w : World} {σ : Wh} {M : Nat → Prop} : ∀ {l : List A} {vs : List Value}, F2 (RA w σ M) l vs → Lens l
  | [], _, _, _, h => by cases h
  | x :: l, v :: vs, ⟨h1, h2⟩, y, hy => by
    rcases List.mem_cons.1 hy with rfl | hy
    · cases y with
      | s c => exact lenOK_of h1.2
      | g l => obtain ⟨_, _, h⟩ := h1; exact lenOKs_of h
      | _ => trivial
    · exact Lens_of h2 y hy
  | _ :: _, [], h, _, _ => h.elim

theorem runA_at (h : AllOK P E) {f : FuncId} {d : Nat} {args : List A} {m : Mem} {r : A} (hr : runA E d f args m = some r) : Callable P f ∧ ∀ (σ₀ σ : Wh) (M : Nat → Prop) (w : World) (vs : List Value), (∀ g, M g → g < w.heap.size) → F2 (RA w σ M) args vs →
    (∀ b l, getB m b = some l → ∃ c e, w.heap[σ.rs b]? = some (.cells c e (0, 0)) ∧ Rs w σ M l c.toList) →
    Calls P f vs.toArray w fun e w' => ∃ v, e = .returned v ∧ RA w' σ₀ M r v ∧ Below w.heap.size w w' := by
  unfold runA at hr
  split at hr
  · rename_i fn hf
    exact bodyA_at h.env h.own h.sum (h.call d) hf args m r hr
  · cases hr

def bodyB (E : Env) (f : FuncId) : Bool :=
  match E.fd f with
  | some fn => fn.body.isSome
  | none => false
theorem callable_of (h : EnvOK P E) {f : FuncId} (hb : bodyB E f = true) : Callable P f := by
  unfold bodyB at hb
  split at hb
  · rename_i fn hf
    obtain ⟨h1, h2⟩ := h.fd f fn hf
    refine ⟨fn, h1, h2, ?_⟩
    cases hx : fn.body with
    | none => rw [hx] at hb; cases hb
    | some c => rfl
  · cases hb

/-- What is to be shown of a function's contract: that the evaluator says so, from empty memory. -/
theorem AllOK.f (h : AllOK P E) {f : FuncId} {ts : List TypeId} {F : List A → Option (Bool × A)} (d : Nat)
    (hF : ∀ l r, F l = some (true, r) → Lens l → ∃ n, runA (withN E n) d f l ⟨[], []⟩ = some r)
    (hb : bodyB E f = true) : AllOK P (withG E f (gOf E ts F)) := by
  refine h.g fun call hc args m r e => ?_
  simp only [gOf] at e
  split at e
  · rename_i l hl
    refine ⟨callable_of h.env hb, fun σ M w vs hM hargs hbox => ?_⟩
    have hl2 := canonDs_ok hl hargs
    obtain ⟨n, hn⟩ := hF l r e (Lens_of hl2)
    exact (runA_at (h.n n) hn).2 σ σ M w vs hM hl2 fun b l hb => by simp [getB] at hb
  · cases e

end
end Ev
end Go.Proofs.YtefjcgbidillhaaGreat
