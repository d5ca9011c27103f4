/- FUNCTIONS: what the evaluator says of a call comes so. -/
import Derived.Test.YtefjcgbidillhaaGreatEvOF
import Derived.Laws.Sem
namespace Go.Proofs.YtefjcgbidillhaaGreat
open Go
open Go.RowKit (Below)
namespace Ev
set_option linter.unusedVariables false

/-- What is said of one function. -/
def CallAt (P : Program) (f : FuncId) (F : List A → Mem → Option (Bool × A)) : Prop :=
  ∀ args m r, F args m = some (true, r) → Callable P f ∧ ∀ (σ : Wh) (M : Nat → Prop) (w : World) (vs : List Value), (∀ g, M g → g < w.heap.size) → F2 (RA w σ M) args vs →
    (∀ b l, getB m b = some l → ∃ c e, w.heap[σ.rs b]? = some (.cells c e (0, 0)) ∧ Rs w σ M l c.toList) →
    Calls P f vs.toArray w fun e w' => ∃ v, e = .returned v ∧ RA w' σ M r v ∧ Below w.heap.size w w'

theorem callOK_iff {P : Program} {call : CallT} : CallOK P call ↔ ∀ f, CallAt P f (call f) := Iff.rfl

/-- What is asked of the loops' summaries. -/
def SumOK (P : Program) (E : Env) : Prop := ∀ f fn c, E.fd f = some fn → fn.body = some c → SumIn P E f c 1000000

/-- What is asked of the contracts. -/
def GamOK (P : Program) (E : Env) : Prop :=
  ∀ f g, E.gam f = some g → ∀ call, CallOK P call → CallAt P f fun args m => g (fun f l => call f l (memFor l m)) m args

section
variable {P : Program} {E : Env} {N : Nat → Prop} {fb : Nat} {w0 w w' : World} {σ σ' : Wh} {S S' : St} {a : Act} {call : CallT}

/-! ### values in their one form -/
section
variable {M : Nat → Prop}

theorem canonG_ok {rec : TypeId → List C → Option (List C)} (hrec : ∀ T l l' (vs : List Value), rec T l = some l' → Rs w σ M l vs → Rs w σ M l' vs) :
    ∀ (fs : List (Nat × TypeId)) (l l' : List C) (vs : List Value), canonG E rec fs l = some l' → Rs w σ M l vs → Rs w σ M l' vs
  | [], [], l', vs, h, hr => by simp only [canonG, Option.some.injEq] at h; subst h; exact hr
  | [], _ :: _, l', vs, h, hr => by simp [canonG] at h
  | (_, ft) :: fs, l, l', vs, h, hr => by
    simp only [canonG] at h
    split at h
    · rename_i ti ht
      split at h
      · rename_i x y hx hy
        split at h
        · rename_i p q hp hq
          simp only [Option.some.injEq] at h
          subst h
          obtain ⟨h1, h2⟩ := takeC_ok _ _ _ _ _ hx hr
          obtain ⟨_, h3⟩ := dropC_ok _ _ _ _ _ hy hr
          have := Rs_append _ _ _ _ (hrec _ _ _ _ hp h2) (canonG_ok hrec fs _ _ _ hq h3)
          rwa [List.take_append_drop] at this
        · cases h
      · cases h
    · cases h

theorem canonC_ok : ∀ (k : Nat) (T : TypeId) (l l' : List C) (vs : List Value), canonC E k T l = some l' → Rs w σ M l vs → Rs w σ M l' vs
  | 0, T, l, l', vs, h, hr => by simp [canonC] at h
  | k + 1, T, l, l', vs, h, hr => by
    simp only [canonC] at h
    split at h
    · obtain ⟨c, hc, rfl⟩ := Option.map_eq_some_iff.1 h
      obtain ⟨v, rfl, _, h2⟩ := oneC_ok hc hr
      exact ⟨[v], [], by simp, h2, rfl⟩
    · split at h
      · simp only [Option.some.injEq] at h
        subst h
        obtain ⟨x, y, rfl, h1, h2⟩ := hr
        exact ⟨x, y, rfl, ⟨.slice none 0 0, h1, .inl ⟨rfl, rfl, rfl⟩⟩, h2⟩
      · split at h
        · simp only [Option.some.injEq] at h
          subst h
          exact hr
        · cases h
      · cases h
    · simp only [Option.some.injEq] at h
      subst h
      exact hr
    · split at h
      · obtain ⟨x, hx, rfl⟩ := Option.map_eq_some_iff.1 h
        obtain ⟨h1, h2⟩ := decC_ok hx hr
        exact ⟨vs, [], by simp, ⟨h1, h2⟩, rfl⟩
      · exact canonG_ok (canonC_ok k) _ _ _ _ h hr
    · cases h

theorem canonA_ok {T : TypeId} {x y : A} {v : Value} (h : canonA E T x = some y) (hr : RA w σ M x v) : RA w σ M y v := by
  unfold canonA at h
  split at h
  · split at h
    · rename_i c _ c' hc
      split at h
      · rename_i hl
        simp only [Option.some.injEq] at h
        subst h
        have := canonC_ok _ _ _ _ [v] hc ⟨[v], [], rfl, hr.2, rfl⟩
        obtain ⟨p, q, e, h1, h2⟩ := this
        simp only [Rs] at h2
        subst h2
        exact ⟨hl, by simpa [e] using h1⟩
      · cases h
    · cases h
  · obtain ⟨l', hl, rfl⟩ := Option.map_eq_some_iff.1 h
    obtain ⟨vs, e, hr⟩ := hr
    exact ⟨vs, e, canonC_ok _ _ _ _ _ hl hr⟩
  · cases h

theorem canonL_ok : ∀ (ts : List TypeId) (l : List A) (l' : List (Bool × List C)) (vs : List Value), canonL E ts l = some l' → F2 (RA w σ M) l vs → F2 (RB w σ M) l' vs
  | [], [], l', vs, h, hr => by simp only [canonL, Option.some.injEq] at h; subst h; cases vs <;> exact hr
  | [], _ :: _, _, _, h, _ => by simp [canonL] at h
  | _ :: _, [], _, _, h, _ => by simp [canonL] at h
  | T :: ts, x :: l, l', [], h, hr => hr.elim
  | T :: ts, x :: l, l', v :: vs, h, ⟨h1, h2⟩ => by
    simp only [canonL] at h
    split at h
    · rename_i c r hc hr
      simp only [Option.some.injEq] at h
      subst h
      have := canonA_ok hc h1
      exact ⟨⟨c, rfl, this.1, this.2⟩, canonL_ok ts l r vs hr h2⟩
    · rename_i y r hc hr
      simp only [Option.some.injEq] at h
      subst h
      exact ⟨canonA_ok hc h1, canonL_ok ts l r vs hr h2⟩
    · cases h

theorem finC_ok {M' : Nat → Prop} {c : C} {vs : List Value} (h : finC c = true) (hr : R1 w σ M c vs) : R1 w σ' M c vs := by
  cases c <;> simp only [finC] at h <;> first | exact hr | (cases h; done) | skip
  rename_i f cap
  cases cap with
  | nil => exact hr
  | cons p q => cases h

theorem finL_ok : ∀ {l : List C} {vs : List Value}, l.all finC = true → Rs w σ M l vs → Rs w σ' M l vs
  | [], _, _, h => h
  | c :: l, _, hl, ⟨x, y, e, h1, h2⟩ => by
    simp only [List.all_cons, Bool.and_eq_true] at hl
    exact ⟨x, y, e, finC_ok (M' := M) hl.1 h1, finL_ok hl.2 h2⟩

theorem finB_ok {x : Bool × List C} {v : Value} (h : x.2.all finC = true) (hr : RB w σ M x v) : RB w σ' M x v := by
  obtain ⟨b, l⟩ := x
  cases b with
  | true => obtain ⟨vs, e, hr⟩ := hr; exact ⟨vs, e, finL_ok h hr⟩
  | false =>
    obtain ⟨c, e, h1, h2⟩ := hr
    simp only at e
    subst e
    simp only [List.all_cons, Bool.and_eq_true] at h
    exact ⟨c, rfl, h1, finC_ok (M' := M) h.1 h2⟩
end

/-- What a callee hands back, as its caller sees it. -/
theorem viewC_ok (h : Sim N fb w0 σ S a w) {c : C} {vs : List Value} (hr : R1 w σ (Mt N fb σ S.mem) c vs) : R1 w σ N (viewC S.mem c) vs := by
  have hM : ∀ g, N g → Mt N fb σ S.mem g := fun g hg => .inl hg
  have k : Keeps w (Mt N fb σ S.mem) w N := ⟨fun _ _ _ => rfl, fun g _ hm => hM g hm⟩
  have hno : ∀ id o, getO S.mem id = some o → ∀ g, (σ.ov id).ownBlock = some g → ¬ N g := fun id o ho g hg hn => by
    have h1 := (ownBlock_lt (h.own id o ho).1 hg).1
    have h2 := h.nlt g hn
    omega
  cases c <;> simp only [viewC] <;> first | exact R1_keep hr k (Agree.refl σ _) | skip
  case own id =>
    split
    · rename_i o ho
      have := R1_freeze h ho hr hM (hno id o ho)
      simpa [C.freezeOwn] using this
    · obtain ⟨rfl, x, n, c, hx⟩ := hr
      exact ⟨_, rfl, by rw [hx]; rfl⟩
  case pre id n =>
    split
    · rename_i o ho
      have := R1_freeze h ho hr hM (hno id o ho)
      simpa [C.freezeOwn] using this
    · obtain ⟨x, n, c, hx, _, rfl⟩ := hr
      exact ⟨_, rfl, rfl⟩
  case ownp id p q =>
    obtain ⟨x, n, c, hx, rfl, _⟩ := hr
    exact ⟨_, rfl, rfl⟩

theorem viewC_len (m : Mem) (c : C) (h : c.len = true) : (viewC m c).len = true := by
  cases c <;> simp only [viewC] <;> first | exact h | rfl | (split <;> rfl)

def resF (tmps : Array Value) : ResultVar → Sem Value
  | .tmp t => pure (tmps.getD t undef)
  | .cell b t => do loadVar t (← asAddr (tmps.getD b undef))

theorem results_eq (fn : Func) (tmps : Array Value) : results fn tmps = (do let vs ← fn.results.mapM (resF tmps); pure (if h : vs.size = 1 then vs[0] else .tuple vs)) := by
  rfl

theorem resA_ok (hE : EnvOK P E) (h : Sim N fb w0 σ S a w) : ∀ (rs : List ResultVar) (l : List A), resA E S rs = some l → ∃ vs : List Value,
    (rs.mapM (resF a.tmps) : Sem (List Value)).run P w = .ok vs w ∧ F2 (RA w σ (Mt N fb σ S.mem)) l vs
  | [], l, e => by simp only [resA, Option.some.injEq] at e; subst e; exact ⟨[], by simp, trivial⟩
  | .tmp t :: rs, l, e => by
    simp only [resA] at e
    obtain ⟨l', hl, rfl⟩ := Option.map_eq_some_iff.1 e
    obtain ⟨vs, h1, h2⟩ := resA_ok hE h rs l' hl
    refine ⟨a.tmps.getD t undef :: vs, ?_, evalA_ok h (.tmp t), h2⟩
    rw [List.mapM_cons]
    simp only [resF, Sem.run_bind, Sem.run_pure, Result.andThen_ok, h1]
  | .cell b T :: rs, l, e => by
    simp only [resA] at e
    split at e
    · rename_i ti b' o ht hb
      split at e
      · rename_i bl hbl
        split at e
        · rename_i cl hcl
          split at e
          · rename_i x r hx hr
            simp only [Option.some.injEq] at e
            subst e
            obtain ⟨vs, h1, h2⟩ := resA_ok hE h rs r hr
            obtain ⟨c, ty, hc, hrs⟩ := h.box b' bl hbl
            obtain ⟨hlen, hrs2⟩ := readC_ok hcl hrs
            have hp : RA w σ (Mt N fb σ S.mem) (.s (.ptr b' o)) (a.tmps.getD b undef) := by
              have := evalA_ok h (.tmp b)
              simp only [evalA] at this
              rw [hb] at this
              exact this
            obtain ⟨_, hp⟩ := hp
            simp only [R1, List.cons.injEq, and_true] at hp
            obtain ⟨v, h3, h4⟩ := valOf_ok (p := ⟨σ.rs b', o, none⟩) (hE.tab T ti ht) hx hrs2 (by simp only [List.length_take, List.length_drop]; omega) (by
              intro j u hj
              rw [add_lit', cell_row hc]
              rw [List.getElem?_take] at hj
              split at hj
              · rw [List.getElem?_drop] at hj
                simpa using hj
              · cases hj)
            refine ⟨v :: vs, ?_, h4, h2⟩
            rw [List.mapM_cons]
            simp only [resF, hp, asAddr, Sem.run_bind, Sem.run_pure, Result.andThen_ok, h1, h3]
          · cases e
        · cases e
      · cases e
    · cases e

theorem finA_ok (hE : EnvOK P E) (h : Sim N fb w0 σ S a w) {fn : Func} {r : A} (e : finA E fn S = some r) (σ₀ : Wh) : ∃ v, (results fn a.tmps).run P w = .ok v w ∧ RA w σ₀ N r v := by
  unfold finA at e
  split at e
  · cases e
  · rename_i l hl
    obtain ⟨vs, h1, h2⟩ := resA_ok hE h _ _ hl
    have h3 : F2 (RA w σ N) (l.map (A.map (viewC S.mem))) vs := h2.map _ fun x _ v hv => RA_map hv (fun c _ vs hr => viewC_ok h hr) (viewC_len S.mem)
    have h1' : (results fn a.tmps).run P w = .ok (if h : vs.toArray.size = 1 then vs.toArray[0] else .tuple vs.toArray) w := by
      rw [results_eq, Array.mapM_eq_mapM_toList]
      simp only [Sem.run_bind, map_eq_pure_bind, h1, Result.andThen_ok, Sem.run_pure]
    split at e
    · rename_i c hc
      have h4 := canonL_ok _ _ _ _ hc h3
      split at e
      · rename_i hf
        simp only [Option.some.injEq] at e
        subst e
        cases vs with
        | nil => exact h4.elim
        | cons v vs =>
          obtain ⟨⟨c', e1, h5, h6⟩, h7⟩ := h4
          cases vs with
          | cons _ _ => exact h7.elim
          | nil =>
            simp only [List.cons.injEq, and_true] at e1
            subst e1
            exact ⟨v, by simpa using h1', h5, finC_ok (M' := N) hf h6⟩
      · cases e
    · rename_i cl hc
      have h4 := canonL_ok _ _ _ _ hc h3
      split at e
      · rename_i hf
        simp only [Option.some.injEq] at e
        subst e
        cases vs with
        | nil => exact h4.elim
        | cons v vs =>
          obtain ⟨h5, h7⟩ := h4
          cases vs with
          | cons _ _ => exact h7.elim
          | nil =>
            obtain ⟨us, e1, h6⟩ := h5
            exact ⟨v, by simpa using h1', us, e1, finL_ok hf h6⟩
      · cases e
    · rename_i l' hn1 hn2 hc
      have h4 := canonL_ok _ _ _ _ hc h3
      split at e
      · rename_i hf
        simp only [Option.some.injEq] at e
        subst e
        have h5 : F2 (RB w σ₀ N) l' vs := h4.mono fun x hx v hv => finB_ok (List.all_eq_true.1 hf x hx) hv
        have hlen := h5.len
        refine ⟨.tuple vs.toArray, ?_, vs, rfl, h5⟩
        rw [h1', dif_neg]
        intro h6
        simp only [List.size_toArray] at h6
        rw [h6] at hlen
        obtain ⟨p, rfl⟩ := List.length_eq_one_iff.1 hlen
        obtain ⟨v, rfl⟩ := List.length_eq_one_iff.1 h6
        obtain ⟨b, cl⟩ := p
        cases b with
        | true => exact hn2 cl rfl
        | false =>
          obtain ⟨⟨c, e1, _⟩, _⟩ := h5
          simp only at e1
          subst e1
          exact hn1 c rfl
      · cases e
    · cases e

theorem getB_grow {m : Mem} {n b : Nat} {l : List C} {os : List (Option Own)} (h : getB ⟨m.boxes ++ List.replicate n none, os⟩ b = some l) : getB m b = some l ∧ b < m.boxes.length := by
  rw [getB_some] at h
  simp only at h
  rcases Nat.lt_or_ge b m.boxes.length with h' | h'
  · rw [List.getElem?_append_left h'] at h
    exact ⟨getB_some.2 h, h'⟩
  · rw [List.getElem?_append_right h', List.getElem?_replicate] at h
    split at h <;> simp at h

theorem getO_none {m : Mem} {n i : Nat} {o : Own} {bs : List (Option (List C))} (h : getO ⟨bs, (m.boxes.map fun _ => none) ++ List.replicate n none⟩ i = some o) : False := by
  rw [getO_some] at h
  simp only at h
  rcases Nat.lt_or_ge i (m.boxes.map fun _ => (none : Option Own)).length with h' | h'
  · rw [List.getElem?_append_left h', List.getElem?_map] at h
    cases hx : m.boxes[i]? <;> rw [hx] at h <;> simp at h
  · rw [List.getElem?_append_right h', List.getElem?_replicate] at h
    split at h <;> simp at h

theorem F2_replicate {α β : Type} {R : α → β → Prop} {x : α} {y : β} (h : R x y) : ∀ n, F2 R (List.replicate n x) (List.replicate n y)
  | 0 => trivial
  | n + 1 => ⟨h, F2_replicate h n⟩

theorem bodyA_at (hE : EnvOK P E) (hO : OwnOK P E) (hs : SumOK P E) (hc : CallOK P call) {f : FuncId} {fn : Func} (hf : E.fd f = some fn) : ∀ args m r', bodyA E call f fn args m = some r' → Callable P f ∧ ∀ (σ₀ σ : Wh) (M : Nat → Prop) (w : World) (vs : List Value), (∀ g, M g → g < w.heap.size) → F2 (RA w σ M) args vs →
    (∀ b l, getB m b = some l → ∃ c e, w.heap[σ.rs b]? = some (.cells c e (0, 0)) ∧ Rs w σ M l c.toList) →
    Calls P f vs.toArray w fun e w' => ∃ v, e = .returned v ∧ RA w' σ₀ M r' v ∧ Below w.heap.size w w' := by
  intro args m r' e
  obtain ⟨hfn, hname⟩ := hE.fd f fn hf
  unfold bodyA at e
  split at e
  · cases e
  · rename_i c hb
    refine ⟨⟨fn, hfn, hname, by rw [hb]; rfl⟩, ?_⟩
    intro σ₀ σ M w vs hM hargs hbox
    have hMt : Mt M m.boxes.length σ ⟨m.boxes ++ List.replicate fn.ntmps none, (m.boxes.map fun _ => none) ++ List.replicate fn.ntmps none⟩ = M := by
      funext g
      simp only [Mt, eq_iff_iff]
      constructor
      · rintro (h | ⟨b, l, h1, h2, h3⟩ | ⟨i, o, h1, _⟩)
        · exact h
        · exact absurd (getB_grow h2).2 (by omega)
        · exact (getO_none h1).elim
      · exact .inl
    have hS : Sim M m.boxes.length w σ ⟨args ++ List.replicate (fn.ntmps - args.length) .dead, ⟨m.boxes ++ List.replicate fn.ntmps none, (m.boxes.map fun _ => none) ++ List.replicate fn.ntmps none⟩⟩
        { tmps := vs.toArray ++ Array.replicate (fn.ntmps - vs.toArray.size) undef, defers := [] } w := {
      defers := rfl
      tmps := by
        simp only [hMt]
        have := F2.append hargs (F2_replicate (R := RA w σ M) (x := .dead) (y := undef) trivial (fn.ntmps - args.length))
        rw [hargs.len] at this ⊢
        simpa using this
      box := fun b l hl => by
        obtain ⟨c, e, h1, h2⟩ := hbox b l (getB_grow hl).1
        exact ⟨c, e, h1, by simp only [hMt]; exact h2⟩
      bnew := fun b l hl hb => absurd (getB_grow hl).2 (by omega)
      bold := fun b l hl _ => by
        obtain ⟨c, e, h1, h2⟩ := hbox b l (getB_grow hl).1
        exact heap_lt h1
      binj := fun b b' l l' hl _ hb => absurd (getB_grow hl).2 (by omega)
      own := fun i o ho => (getO_none ho).elim
      oinj := fun i i' o o' g ho => (getO_none ho).elim
      sep := fun b l i o g _ ho => (getO_none ho).elim
      below := Below.refl _ _
      nlt := hM }
    refine calls_of_wp hfn hb (ev_ok hE hO hc f r' c _ _ _ _ _ _ _ (hs f fn c hf hb) hS e fun y σ' S' a' w' h' hk => ?_)
    cases y with
    | exit id => cases hk
    | normal =>
      obtain ⟨v, h1, h2⟩ := finA_ok hE h' hk σ₀
      exact ⟨h'.defers, v, h1, v, rfl, h2, h'.below⟩
    | ret =>
      obtain ⟨v, h1, h2⟩ := finA_ok hE h' hk σ₀
      exact ⟨h'.defers, v, h1, v, rfl, h2, h'.below⟩

theorem bodyA_ok (hE : EnvOK P E) (hO : OwnOK P E) (hs : SumOK P E) (hc : CallOK P call) {f : FuncId} {fn : Func} (hf : E.fd f = some fn) : CallAt P f fun args m => (bodyA E call f fn args m).map fun r => (true, r) := by
  intro args m r e
  obtain ⟨r', e0, e'⟩ := Option.map_eq_some_iff.1 e
  simp only [Prod.mk.injEq, true_and] at e'
  subst e'
  obtain ⟨h1, h2⟩ := bodyA_at hE hO hs hc hf args m r' e0
  exact ⟨h1, fun σ => h2 σ σ⟩

theorem flatC_ok {M M' : Nat → Prop} {c : C} {vs : List Value} (h : flatC c = true) (hr : R1 w σ M c vs) : R1 w σ M' c vs := by
  cases c <;> simp only [flatC] at h <;> first | exact hr | (cases h; done)

theorem flatL_ok {M M' : Nat → Prop} : ∀ {l : List C} {vs : List Value}, l.all flatC = true → Rs w σ M l vs → Rs w σ M' l vs
  | [], _, _, h => h
  | c :: l, _, hl, ⟨x, y, e, h1, h2⟩ => by
    simp only [List.all_cons, Bool.and_eq_true] at hl
    exact ⟨x, y, e, flatC_ok hl.1 h1, flatL_ok hl.2 h2⟩

theorem flatA_ok {M M' : Nat → Prop} {x : A} {v : Value} (h : x.all flatC = true) (hr : RA w σ M x v) : RA w σ M' x v := by
  cases x with
  | s c => exact ⟨hr.1, flatC_ok (by simpa [A.all] using h) hr.2⟩
  | g l => obtain ⟨vs, e, hr⟩ := hr; exact ⟨vs, e, flatL_ok (by simpa [A.all] using h) hr⟩
  | t l =>
    obtain ⟨vs, e, hr⟩ := hr
    refine ⟨vs, e, hr.mono ?_⟩
    rintro ⟨b, l'⟩ hx v hv
    have hl' : l'.all flatC = true := by
      simp only [A.all, List.all_eq_true] at h
      have := h _ hx
      simpa using this
    cases b with
    | true => obtain ⟨us, e, hv⟩ := hv; exact ⟨us, e, flatL_ok hl' hv⟩
    | false =>
      obtain ⟨c, e, h1, h2⟩ := hv
      simp only at e
      subst e
      exact ⟨c, rfl, h1, flatC_ok (by simpa using hl') h2⟩
  | dead => trivial

/-- What may be written, but for the boxes. -/
def lessM (M : Nat → Prop) (σ : Wh) (m : Mem) (g : Nat) : Prop := M g ∧ ∀ b l, getB m b = some l → σ.rs b ≠ g

theorem snapC_ok {M : Nat → Prop} {m : Mem} (hbox : ∀ b l, getB m b = some l → ∃ c e, w.heap[σ.rs b]? = some (.cells c e (0, 0)) ∧ Rs w σ M l c.toList) {c : C} {vs : List Value} (h : R1 w σ M c vs) : R1 w σ (lessM M σ m) (snapC m c) vs := by
  have k : Keeps w M w (lessM M σ m) := ⟨fun _ _ _ => rfl, fun g _ hm => hm.1⟩
  cases c <;> simp only [snapC] <;> first | exact R1_keep h k (Agree.refl σ _) | skip
  rename_i b o t n hi
  obtain ⟨rfl, hin⟩ := h
  split
  · rename_i kk x harr
    split
    · rename_i hk
      simp only [Bool.and_eq_true] at hk
      have h1 := Nat.eq_of_beq_eq_true hk.1
      have h2 := Nat.le_of_ble_eq_true hk.2
      subst h1
      have hm : MemOK w σ M 0 ⟨m.boxes, []⟩ := ⟨fun b l hb => hbox b l hb, fun i o hb => by simp [getO] at hb⟩
      obtain ⟨hlen, hok, c, ety, l0, r, va, hb, hd, hc, hdrop, hva⟩ := arrAt_ok (m := ⟨m.boxes, []⟩) hm harr
      have hfl := flat_len_ok t x hok
      refine ⟨_, rfl, .inr ⟨⟨σ.rs b, o, none⟩, kk, ?_, ?_, ?_, .inr ?_, ?_, ?_⟩⟩
      · rw [List.length_take, Nat.min_eq_left (by omega)]
      · simp; omega
      · unfold maxLen; omega
      · intro hm'
        exact hm'.2 b l0 hb rfl
      · intro j u hj
        rw [List.take_append_drop] at hj
        rw [add_lit', cell_row hc]
        have : (c.toList.drop o)[j]? = some u := by
          rw [hdrop, List.getElem?_append_left (List.getElem?_eq_some_iff.1 hj).1]
          exact hj
        simpa using this
      · intro y hy
        rw [List.take_append_drop] at hy
        exact hok y hy
    · exact ⟨_, rfl, rfl⟩
  · exact ⟨_, rfl, rfl⟩

theorem snapC_len (m : Mem) (c : C) (h : c.len = true) : (snapC m c).len = true := by
  cases c <;> simp only [snapC] <;> first | exact h | (split <;> first | rfl | (split <;> rfl))

theorem snapA_ok {M : Nat → Prop} {m : Mem} (hbox : ∀ b l, getB m b = some l → ∃ c e, w.heap[σ.rs b]? = some (.cells c e (0, 0)) ∧ Rs w σ M l c.toList) {x : A} {v : Value} (h : RA w σ M x v) : RA w σ (lessM M σ m) (x.map (snapC m)) v :=
  RA_map h (fun c _ vs hr => snapC_ok hbox hr) (snapC_len m)

/-- **EVERY CALL THAT THE EVALUATOR ANSWERS COMES SO.** -/
theorem callA_sound (hE : EnvOK P E) (hO : OwnOK P E) (hs : SumOK P E) (hG : GamOK P E) : ∀ d, CallOK P (callA E d)
  | 0 => fun f args m r e => by simp [callA] at e
  | d + 1 => fun f args m r e => by
    have ih := callA_sound hE hO hs hG d
    have go : ∀ f args m r, (match E.gam f with
      | some g => g (fun f l => callA E d f l (memFor l m)) m args
      | none => match E.fd f with
        | some fn => (bodyA E (callA E d) f fn args m).map fun r => (true, r)
        | none => none) = some (true, r) → Callable P f ∧ ∀ (σ : Wh) (M : Nat → Prop) (w : World) (vs : List Value), (∀ g, M g → g < w.heap.size) → F2 (RA w σ M) args vs →
        (∀ b l, getB m b = some l → ∃ c e, w.heap[σ.rs b]? = some (.cells c e (0, 0)) ∧ Rs w σ M l c.toList) →
        Calls P f vs.toArray w fun e w' => ∃ v, e = .returned v ∧ RA w' σ M r v ∧ Below w.heap.size w w' := by
      intro f args m r e
      split at e
      · rename_i g hg
        exact hG f g hg (callA E d) ih args m r e
      · split at e
        · rename_i fn hf
          exact bodyA_ok hE hO hs ih hf args m r e
        · cases e
    simp only [callA] at e
    split at e
    · exact go f args m r e
    · split at e
      · rename_i b y hy
        split at e
        · rename_i hflat
          simp only [Option.some.injEq, Prod.mk.injEq] at e
          obtain ⟨rfl, rfl⟩ := e
          obtain ⟨h1, h2⟩ := go f _ _ _ hy
          refine ⟨h1, fun σ M w vs hM hargs hbox => ?_⟩
          have hargs' : F2 (RA w σ (lessM M σ m)) (args.map (A.map (snapC m))) vs := F2.map _ hargs fun x _ v hv => snapA_ok hbox hv
          have k : Keeps w M w (lessM M σ m) := ⟨fun _ _ _ => rfl, fun g _ hm => hm.1⟩
          refine (h2 σ (lessM M σ m) w vs (fun g hg => hM g hg.1) hargs' ?_).mono ?_
          · intro b l hb
            have hb' : getB m b = some l := by
              unfold memFor at hb
              split at hb
              · simp [getB] at hb
              · rw [getB_some] at hb ⊢
                exact trimB_get _ _ _ hb
            obtain ⟨c, e, h3, h4⟩ := hbox b l hb'
            exact ⟨c, e, h3, Rs_keep h4 k fun c _ => Agree.refl σ c⟩
          · rintro e w' ⟨v, h3, h4, h5⟩
            exact ⟨v, h3, flatA_ok hflat h4, h5⟩
        · cases e
      · cases e

end
end Ev
end Go.Proofs.YtefjcgbidillhaaGreat
